/- The digits of a number: ints.Show, selvageref01.Show; a list's text, and that it is read again. -/
import Derived.Test.YtpmbnnobfjjpaaaGreatDoorProg
import Derived.WalkKit
import Derived.WalkSpells
import Derived.WalkLawsBesides
import Derived.Lib.Hide
import Derived.Test.YtpmbnnobfjjpaaaGreatDoorSb
import Derived.Test.YtpmbnnobfjjpaaaGreatDoorSf
import Derived.Test.YtpmbnnobfjjpaaaGreatDoorPl
import Derived.Lib.Join
namespace Go.Proofs
set_option linter.unusedVariables false
set_option linter.unusedSimpArgs false
open Go.RowKit

def wrap63 (n : Int) : Int := if 4611686018427387903 < n then n - 9223372036854775808 else if n < -4611686018427387904 then n + 9223372036854775808 else n

theorem walk_wrap (n : Int) (w : World) (h1 : -9223372036854775808 ≤ n) (h2 : n ≤ 9223372036854775807) : Calls Tryz.prog 31 #[.int .i64 n] w fun e w' => e = .returned (.int .i64 (wrap63 n)) ∧ w = w' := by
  have hv : wrap64 (n * 2) / 2 = wrap63 n := by
    unfold wrap64 wrap63; split <;> (try split) <;> omega
  have H := Lib.hid hv
  clear hv
  go_enter Tryz.func31, Tryz.ntmps31
  go_wp2
  refine bodyPost_ret (v := .int .i64 (wrap64 (n * 2) / 2)) (by simp [results, Tryz.results31, go_sem]) rfl ⟨by rw [H.out], rfl⟩

theorem walk_refwrap (n : Int) (w : World) (h1 : -9223372036854775808 ≤ n) (h2 : n ≤ 9223372036854775807) : Calls Tryz.prog 33 #[.int .i64 n] w fun e w' => e = .returned (.int .i64 (wrap63 n)) ∧ w = w' := by
  by_cases c1 : 4611686018427387903 < n
  · have H : Hid (wrap63 n = n - 4611686018427387904 - 4611686018427387904) := Lib.hid (by unfold wrap63; rw [if_pos c1]; omega)
    go_enter Tryz.func33, Tryz.ntmps33
    go_wp2
    refine bodyPost_ret (v := .int .i64 (n - 4611686018427387904 - 4611686018427387904)) (by simp [results, Tryz.results33, go_sem]) rfl ⟨by rw [H.out], rfl⟩
  · by_cases c2 : n < -4611686018427387904
    · have H : Hid (wrap63 n = n + 4611686018427387904 + 4611686018427387904) := Lib.hid (by unfold wrap63; rw [if_neg c1, if_pos c2]; omega)
      have c1' : ¬ (4611686018427387903 < n) := c1
      go_enter Tryz.func33, Tryz.ntmps33
      go_wp2
      refine bodyPost_ret (v := .int .i64 (n + 4611686018427387904 + 4611686018427387904)) (by simp [results, Tryz.results33, go_sem]) rfl ⟨by rw [H.out], rfl⟩
    · have H : Hid (wrap63 n = n) := Lib.hid (by unfold wrap63; rw [if_neg c1, if_neg c2])
      go_enter Tryz.func33, Tryz.ntmps33
      go_wp2
      refine bodyPost_ret (v := .int .i64 n) (by simp [results, Tryz.results33, go_sem]) rfl ⟨by rw [H.out], rfl⟩
end Go.Proofs

namespace Go.Proofs
set_option linter.unusedVariables false
set_option linter.unusedSimpArgs false
open Go.AM
theorem sub_i64 (P : Program) (t : TypeId) (ox oy : Operand) (a b : Int) : aBinOp P .sub t ox oy (.lit (.int .i64 a)) (.lit (.int .i64 b)) = some (.lit (.int .i64 (IntKind.i64.wrap (a - b)))) := rfl
theorem add_i64 (P : Program) (t : TypeId) (ox oy : Operand) (a b : Int) : aBinOp P .add t ox oy (.lit (.int .i64 a)) (.lit (.int .i64 b)) = some (.lit (.int .i64 (IntKind.i64.wrap (a + b)))) := rfl
theorem lss_i64 (P : Program) (t : TypeId) (ox oy : Operand) (a b : Int) : aBinOp P .lss t ox oy (.lit (.int .i64 a)) (.lit (.int .i64 b)) = some (.lit (.bool (decide (a < b)))) := rfl
theorem eql_i64 (P : Program) (t : TypeId) (ox oy : Operand) (a b : Int) : aBinOp P .eql t ox oy (.lit (.int .i64 a)) (.lit (.int .i64 b)) = some (.lit (.bool (a == b))) := rfl
theorem rem_i64 (P : Program) (t : TypeId) (ox oy : Operand) (a : Int) : aBinOp P .rem t ox oy (.lit (.int .i64 a)) (.lit (.int .i64 10)) = some (.lit (.int .i64 (a.tmod 10))) := rfl
theorem quo_i64 (P : Program) (t : TypeId) (ox oy : Operand) (a : Int) : aBinOp P .quo t ox oy (.lit (.int .i64 a)) (.lit (.int .i64 10)) = some (.lit (.int .i64 (IntKind.i64.wrap (a.tdiv 10)))) := rfl
theorem neg_i64 (a : Int) (P : Program) (S : AState) : unK .neg (.lit (.int .i64 a)) P S = some (.val (.lit (.int .i64 (IntKind.i64.wrap (0 - a)))), S) := rfl
theorem conv_u8 (S : AState) (a : Int) : aConvert Tryz.prog S 3 5 (.lit (.int .i64 a)) = some (.val (.lit (.int .u8 (IntKind.u8.wrap a))), S) := by kernel_rfl
theorem zT70 : zeroT Tryz.prog 70 = some (.lit (.agg (Array.replicate 24 (.int .u8 0)))) := by kernel_rfl

set_option linter.unusedSimpArgs false
def numL (m : Nat) : List UInt8 := if m < 10 then [UInt8.ofNat (48 + m)] else numL (m / 10) ++ [UInt8.ofNat (48 + m % 10)]
termination_by m
decreasing_by omega
def showL (n : Int) : List UInt8 := if n < 0 then 45 :: numL n.natAbs else numL n.natAbs
def sg (b : Bool) (m : Nat) : Int := if b then -(m : Int) else m
def u8A (c : UInt8) : AV := .lit (.int .u8 c.toNat)
def zA : AV := .lit (.int .u8 0)

theorem listSet_mid (z v : AV) (r : List AV) : ∀ a, listSet (List.replicate (a + 1) z ++ r) a [v] = List.replicate a z ++ v :: r
  | 0 => by simp [List.replicate, listSet]
  | a + 1 => by
    show listSet (z :: (List.replicate (a + 1) z ++ r)) (a + 1) [v] = _
    unfold listSet
    rw [listSet_mid z v r a]
    rfl

theorem store_mid (S : AState) (N a : Nat) (r : List AV) (v : AV) (hg : S.get N = some (.row (List.replicate (a + 1) zA ++ r) 24 70 true)) (h1 : v.cells = [v]) (h2 : v.one = true) (hs : sizeT Tryz.prog 5 = some 1) :
    aStore Tryz.prog S 5 (.ptr N a) v = some (S.put N (.row (List.replicate a zA ++ v :: r) 24 70 true)) := by
  unfold aStore
  simp only [hg, hs, obind_val, h1]
  rw [if_pos, listSet_mid]
  simp [allOne, h2]
theorem sT5 : sizeT Tryz.prog 5 = some 1 := by kernel_rfl

theorem sg_rem (b : Bool) (m : Nat) : (sg b m).tmod 10 = sg b (m % 10) := by
  cases b
  · show (m : Int).tmod 10 = ((m % 10 : Nat) : Int)
    rw [Int.tmod_eq_emod_of_nonneg (by omega)]; rfl
  · show (-(m : Int)).tmod 10 = -((m % 10 : Nat) : Int)
    rw [Int.neg_tmod, Int.tmod_eq_emod_of_nonneg (by omega)]; rfl
theorem sg_quo (b : Bool) (m : Nat) : (sg b m).tdiv 10 = sg b (m / 10) := by
  cases b
  · show (m : Int).tdiv 10 = ((m / 10 : Nat) : Int)
    rw [Int.tdiv_eq_ediv_of_nonneg (by omega)]; rfl
  · show (-(m : Int)).tdiv 10 = -((m / 10 : Nat) : Int)
    rw [Int.neg_tdiv, Int.tdiv_eq_ediv_of_nonneg (by omega)]; rfl
theorem sg_bd (b : Bool) (m k : Nat) (h : m ≤ k) : -(k : Int) ≤ sg b m ∧ sg b m ≤ k := by
  unfold sg; split <;> omega

noncomputable def lp16 : Code := lpB Tryz.f16.body

set_option maxRecDepth 20000 in
theorem show_round (R : Recs) (fuel : Nat) (tm : T AV) (S : AState) (N a m : Nat) (b : Bool) (r : List AV) (hm : m ≤ 4611686018427387904) (ha : a + 1 ≤ 24)
    (t0 : tget tm 36 0 = .lit (.int .i64 (sg b m))) (t3 : tget tm 36 3 = .ptr N 0) (t4 : tget tm 36 4 = .lit (.int .i64 ((a + 1 : Nat) : Int))) (hg : S.get N = some (.row (List.replicate (a + 1) zA ++ r) 24 70 true)) :
    ∃ tm', codeK eS R none fuel (lpB Tryz.f16.body) ⟨tm, 36, []⟩ S = some (if m / 10 = 0 then .exit 0 else .normal, ⟨tm', 36, []⟩, S.put N (.row (List.replicate a zA ++ u8A (UInt8.ofNat (48 + m % 10)) :: r) 24 70 true)) ∧
      tget tm' 36 0 = .lit (.int .i64 (sg b (m / 10))) ∧ tget tm' 36 3 = .ptr N 0 ∧ tget tm' 36 4 = .lit (.int .i64 (a : Int)) ∧ tget tm' 36 5 = tget tm 36 5 := by
  have hq : IntKind.i64.wrap ((sg b m).tdiv 10) = sg b (m / 10) := by
    rw [sg_quo]; have := sg_bd b (m / 10) 4611686018427387904 (by omega); exact IntWalk.i64_in _ ⟨by omega, by omega⟩
  have ha1 : IntKind.i64.wrap (((a + 1 : Nat) : Int) - 1) = (a : Int) := by rw [IntWalk.i64_in _ ⟨by omega, by omega⟩]; omega
  have h48 : IntKind.i64.wrap (48 + ((m % 10 : Nat) : Int)) = ((48 + m % 10 : Nat) : Int) := by rw [IntWalk.i64_in _ ⟨by omega, by omega⟩]; omega
  have hu8 : IntKind.u8.wrap (((48 + m % 10 : Nat) : Int)) = ((UInt8.ofNat (48 + m % 10)).toNat : Int) := by
    rw [IntKind.wrap_u8]
    have : (UInt8.ofNat (48 + m % 10)).toNat = 48 + m % 10 := by simp; omega
    rw [this]; omega
  have hia : aIndexAddr Tryz.prog 70 (.ptr N 0) (.lit (.int .i64 (a : Int))) = some (.ptr N a) := by
    have hu : Tryz.prog.underlying 70 = some (.array 24 5) := Tryz.underlying70
    show obind (some a) (fun i => _) = _
    simp only [obind_val, hu, sT5]
    rw [if_pos (by omega)]
    simp
  have hst := store_mid S N a r (u8A (UInt8.ofNat (48 + m % 10))) hg rfl rfl sT5
  have hu8A : (AV.lit (.int .u8 ((UInt8.ofNat (48 + m % 10)).toNat : Int))) = u8A (UInt8.ofNat (48 + m % 10)) := rfl
  simp only [lpB, Tryz.f16, lpOf, orE_some, orE_none]
  by_cases hneg : sg b (m % 10) < 0
  · have hd : decide (sg b (m % 10) < 0) = true := decide_eq_true hneg
    have hn : IntKind.i64.wrap (0 - sg b (m % 10)) = ((m % 10 : Nat) : Int) := by
      have : sg b (m % 10) = -((m % 10 : Nat) : Int) := by unfold sg at hneg ⊢; split at hneg <;> simp_all; omega
      rw [this, IntWalk.i64_in _ ⟨by omega, by omega⟩]; omega
    by_cases hz : m / 10 = 0
    · have he : (sg b (m / 10) == 0) = true := by rw [hz]; cases b <;> rfl
      simp (disch := omega) only [code_seq, code_region, code_cond, code_block, code_skip, code_ret, code_exit, codeK_eq, seqK_normal, seqK_ret, seqK_exit, blockK_normal, blockK_ret, blockK_exit, condK_true, condK_false, regK_eq, putK_eq, oper_eq, operK_val, operK_enter, operK_round, opsK_eq, ops_cons, ops_nil, wantK_true, wantK_false, wanted_0, wanted_g, guardK_some, isB_bool, ↓reduceIte, obind_val, aop_move, aop_assign, aop_store, aop_load, aop_alloc, aop_box, aop_makeFunc, aop_binOp, aop_callv, aop_callb, aop_pick, aop_extract, aop_buildSlice, aop_unOp, pickK_true, pickK_false, extK_lit, extK_tup, unK_not, val_some, unit_some, eval_tmp, eval_const, eval_func, get_mk, put_mk, put_none, tget_tput, get_put, get_bump, next_bump, next_put, next_kill, Nat.reduceEqDiff, ret_eq, evalList, evalParts, eS_P, List.getElem?_cons, Nat.reduceSub, Bool.false_eq_true, beq_self_eq_true, Bool.not_true, Bool.not_false, b_tf, b_ft, b_tt, b_ff, t0, t3, t4, rem_i64, sg_rem, lss_i64, hd, neg_i64, hn, sub_i64, ha1, add_i64, h48, aop_convert, conv_u8, hu8, hu8A, aop_indexAddr, hia, hst, quo_i64, hq, eql_i64, he, if_pos hz]
      refine ⟨_, rfl, ?_, ?_, ?_, ?_⟩ <;> simp (disch := omega) only [tget_tput, Nat.reduceEqDiff, ↓reduceIte, t0, t3, t4]
    · have he : (sg b (m / 10) == 0) = false := by unfold sg; split <;> simp <;> omega
      simp (disch := omega) only [code_seq, code_region, code_cond, code_block, code_skip, code_ret, code_exit, codeK_eq, seqK_normal, seqK_ret, seqK_exit, blockK_normal, blockK_ret, blockK_exit, condK_true, condK_false, regK_eq, putK_eq, oper_eq, operK_val, operK_enter, operK_round, opsK_eq, ops_cons, ops_nil, wantK_true, wantK_false, wanted_0, wanted_g, guardK_some, isB_bool, ↓reduceIte, obind_val, aop_move, aop_assign, aop_store, aop_load, aop_alloc, aop_box, aop_makeFunc, aop_binOp, aop_callv, aop_callb, aop_pick, aop_extract, aop_buildSlice, aop_unOp, pickK_true, pickK_false, extK_lit, extK_tup, unK_not, val_some, unit_some, eval_tmp, eval_const, eval_func, get_mk, put_mk, put_none, tget_tput, get_put, get_bump, next_bump, next_put, next_kill, Nat.reduceEqDiff, ret_eq, evalList, evalParts, eS_P, List.getElem?_cons, Nat.reduceSub, Bool.false_eq_true, beq_self_eq_true, Bool.not_true, Bool.not_false, b_tf, b_ft, b_tt, b_ff, t0, t3, t4, rem_i64, sg_rem, lss_i64, hd, neg_i64, hn, sub_i64, ha1, add_i64, h48, aop_convert, conv_u8, hu8, hu8A, aop_indexAddr, hia, hst, quo_i64, hq, eql_i64, he, if_neg hz]
      refine ⟨_, rfl, ?_, ?_, ?_, ?_⟩ <;> simp (disch := omega) only [tget_tput, Nat.reduceEqDiff, ↓reduceIte, t0, t3, t4]
  · have hd : decide (sg b (m % 10) < 0) = false := decide_eq_false hneg
    have hn : sg b (m % 10) = ((m % 10 : Nat) : Int) := by unfold sg at hneg ⊢; split at hneg <;> simp_all <;> omega
    rw [hn] at hd
    by_cases hz : m / 10 = 0
    · have he : (sg b (m / 10) == 0) = true := by rw [hz]; cases b <;> rfl
      simp (disch := omega) only [code_seq, code_region, code_cond, code_block, code_skip, code_ret, code_exit, codeK_eq, seqK_normal, seqK_ret, seqK_exit, blockK_normal, blockK_ret, blockK_exit, condK_true, condK_false, regK_eq, putK_eq, oper_eq, operK_val, operK_enter, operK_round, opsK_eq, ops_cons, ops_nil, wantK_true, wantK_false, wanted_0, wanted_g, guardK_some, isB_bool, ↓reduceIte, obind_val, aop_move, aop_assign, aop_store, aop_load, aop_alloc, aop_box, aop_makeFunc, aop_binOp, aop_callv, aop_callb, aop_pick, aop_extract, aop_buildSlice, aop_unOp, pickK_true, pickK_false, extK_lit, extK_tup, unK_not, val_some, unit_some, eval_tmp, eval_const, eval_func, get_mk, put_mk, put_none, tget_tput, get_put, get_bump, next_bump, next_put, next_kill, Nat.reduceEqDiff, ret_eq, evalList, evalParts, eS_P, List.getElem?_cons, Nat.reduceSub, Bool.false_eq_true, beq_self_eq_true, Bool.not_true, Bool.not_false, b_tf, b_ft, b_tt, b_ff, t0, t3, t4, rem_i64, sg_rem, hn, lss_i64, hd, neg_i64, sub_i64, ha1, add_i64, h48, aop_convert, conv_u8, hu8, hu8A, aop_indexAddr, hia, hst, quo_i64, hq, eql_i64, he, if_pos hz]
      refine ⟨_, rfl, ?_, ?_, ?_, ?_⟩ <;> simp (disch := omega) only [tget_tput, Nat.reduceEqDiff, ↓reduceIte, t0, t3, t4]
    · have he : (sg b (m / 10) == 0) = false := by unfold sg; split <;> simp <;> omega
      simp (disch := omega) only [code_seq, code_region, code_cond, code_block, code_skip, code_ret, code_exit, codeK_eq, seqK_normal, seqK_ret, seqK_exit, blockK_normal, blockK_ret, blockK_exit, condK_true, condK_false, regK_eq, putK_eq, oper_eq, operK_val, operK_enter, operK_round, opsK_eq, ops_cons, ops_nil, wantK_true, wantK_false, wanted_0, wanted_g, guardK_some, isB_bool, ↓reduceIte, obind_val, aop_move, aop_assign, aop_store, aop_load, aop_alloc, aop_box, aop_makeFunc, aop_binOp, aop_callv, aop_callb, aop_pick, aop_extract, aop_buildSlice, aop_unOp, pickK_true, pickK_false, extK_lit, extK_tup, unK_not, val_some, unit_some, eval_tmp, eval_const, eval_func, get_mk, put_mk, put_none, tget_tput, get_put, get_bump, next_bump, next_put, next_kill, Nat.reduceEqDiff, ret_eq, evalList, evalParts, eS_P, List.getElem?_cons, Nat.reduceSub, Bool.false_eq_true, beq_self_eq_true, Bool.not_true, Bool.not_false, b_tf, b_ft, b_tt, b_ff, t0, t3, t4, rem_i64, sg_rem, hn, lss_i64, hd, neg_i64, sub_i64, ha1, add_i64, h48, aop_convert, conv_u8, hu8, hu8A, aop_indexAddr, hia, hst, quo_i64, hq, eql_i64, he, if_neg hz]
      refine ⟨_, rfl, ?_, ?_, ?_, ?_⟩ <;> simp (disch := omega) only [tget_tput, Nat.reduceEqDiff, ↓reduceIte, t0, t3, t4]
end Go.Proofs

namespace Go.Proofs
set_option linter.unusedVariables false
set_option linter.unusedSimpArgs false
open Go.AM
set_option linter.unusedSimpArgs false

theorem numL_small {m : Nat} (h : m < 10) : numL m = [UInt8.ofNat (48 + m % 10)] := by
  unfold numL; rw [if_pos h, Nat.mod_eq_of_lt h]
theorem numL_big {m : Nat} (h : ¬ m < 10) : numL m = numL (m / 10) ++ [UInt8.ofNat (48 + m % 10)] := by
  conv => lhs; unfold numL
  rw [if_neg h]
theorem numL_pos (m : Nat) : 0 < (numL m).length := by
  by_cases h : m < 10
  · rw [numL_small h]; simp
  · rw [numL_big h]; simp
theorem numL_len : ∀ (d m : Nat), m < 10 ^ (d + 1) → (numL m).length ≤ d + 1
  | 0, m, h => by rw [numL_small (by simpa using h)]; simp
  | d + 1, m, h => by
    by_cases h1 : m < 10
    · rw [numL_small h1]; simp
    · rw [numL_big h1]
      have := numL_len d (m / 10) (by rw [Nat.pow_succ] at h; omega)
      simp; omega

/-- the loop of ints.Show lays the digits, from the lowest on -/
theorem show_loop (R : Recs) (fuel N : Nat) (hN : N < 65536) (b : Bool) : ∀ (d k m a : Nat) (tm : T AV) (S : AState) (r : List AV), m < 10 ^ (d + 1) → m ≤ 4611686018427387904 → d ≤ a → a + 1 ≤ 24 → d < k →
    tget tm 36 0 = .lit (.int .i64 (sg b m)) → tget tm 36 3 = .ptr N 0 → tget tm 36 4 = .lit (.int .i64 ((a + 1 : Nat) : Int)) → S.get N = some (.row (List.replicate (a + 1) zA ++ r) 24 70 true) →
    ∃ tm' S', arounds (codeK eS R none fuel (lpB Tryz.f16.body)) k ⟨tm, 36, []⟩ S = some (.exit 0, ⟨tm', 36, []⟩, S') ∧ tget tm' 36 3 = .ptr N 0 ∧ tget tm' 36 4 = .lit (.int .i64 ((a + 1 - (numL m).length : Nat) : Int)) ∧ tget tm' 36 5 = tget tm 36 5 ∧
      S'.next = S.next ∧ (∀ j, j ≠ N → S'.get j = S.get j) ∧ S'.get N = some (.row (List.replicate (a + 1 - (numL m).length) zA ++ ((numL m).map u8A ++ r)) 24 70 true) := by
  intro d
  induction d with
  | zero =>
    intro k m a tm S r hm hm2 hda ha hk t0 t3 t4 hg
    obtain ⟨k, rfl⟩ : ∃ k', k = k' + 1 := ⟨k - 1, by omega⟩
    obtain ⟨tm', h, u0, u3, u4, u5⟩ := show_round R fuel tm S N a m b r hm2 ha t0 t3 t4 hg
    have hz : m / 10 = 0 := by simp at hm; omega
    rw [if_pos hz] at h
    have hl : numL m = [UInt8.ofNat (48 + m % 10)] := numL_small (by simpa using hm)
    refine ⟨tm', _, rounds_stop h (by intro e; cases e), u3, ?_, u5, next_put _ _ _, fun j hj => ?_, ?_⟩
    · rw [hl]; simpa using u4
    · rw [get_put _ _ _ _ hN, if_neg hj]
    · rw [get_put _ _ _ _ hN, if_pos rfl, hl]; simp
  | succ d ih =>
    intro k m a tm S r hm hm2 hda ha hk t0 t3 t4 hg
    obtain ⟨k, rfl⟩ : ∃ k', k = k' + 1 := ⟨k - 1, by omega⟩
    obtain ⟨tm', h, u0, u3, u4, u5⟩ := show_round R fuel tm S N a m b r hm2 ha t0 t3 t4 hg
    by_cases hz : m / 10 = 0
    · rw [if_pos hz] at h
      have hl : numL m = [UInt8.ofNat (48 + m % 10)] := numL_small (by omega)
      refine ⟨tm', _, rounds_stop h (by intro e; cases e), u3, ?_, u5, next_put _ _ _, fun j hj => ?_, ?_⟩
      · rw [hl]; simpa using u4
      · rw [get_put _ _ _ _ hN, if_neg hj]
      · rw [get_put _ _ _ _ hN, if_pos rfl, hl]; simp
    · rw [if_neg hz] at h
      have hl : numL m = numL (m / 10) ++ [UInt8.ofNat (48 + m % 10)] := numL_big (by omega)
      obtain ⟨a, rfl⟩ : ∃ a', a = a' + 1 := ⟨a - 1, by omega⟩
      have hm' : m / 10 < 10 ^ (d + 1) := by rw [Nat.pow_succ] at hm; omega
      have hlen := numL_len d (m / 10) hm'
      obtain ⟨tm2, S2, h2, v3, v4, v5, vn, vf, vg⟩ := ih k (m / 10) a tm' (S.put N (.row (List.replicate (a + 1) zA ++ u8A (UInt8.ofNat (48 + m % 10)) :: r) 24 70 true)) (u8A (UInt8.ofNat (48 + m % 10)) :: r) hm' (by omega) (by omega) (by omega) (by omega) u0 u3 u4 (by rw [get_put _ _ _ _ hN, if_pos rfl])
      have hsub : a + 1 + 1 - (numL m).length = a + 1 - (numL (m / 10)).length := by rw [hl]; simp
      refine ⟨tm2, S2, by rw [rounds_go h]; exact h2, v3, by rw [hsub]; exact v4, v5.trans u5, vn, fun j hj => ?_, ?_⟩
      · rw [vf j hj, get_put _ _ _ _ hN, if_neg hj]
      · rw [hsub, vg, hl]; simp
end Go.Proofs

namespace Go.Proofs
set_option linter.unusedVariables false
set_option linter.unusedSimpArgs false
open Go.AM
set_option linter.unusedSimpArgs false

theorem call31 (S : AState) (args : List AV) : aCallY eS S (.lit (.func (.func 31) #[] #[])) args = some (.enter 31 args, S) := calY_lit S 31 args Tryz.f31 _ Tryz.func31 rfl
theorem zc70 : AV.cells (.lit (.agg (Array.replicate 24 (.int .u8 0)))) = List.replicate 24 zA := by kernel_rfl

theorem flat_u8 : ∀ l : List UInt8, flatList (l.map u8A) = some (l.map fun c => Value.int .u8 c.toNat)
  | [] => rfl
  | c :: r => by
    show (match flatList (r.map u8A) with | some l => some (Value.int .u8 c.toNat :: l) | none => none) = _
    rw [flat_u8 r]; rfl
theorem bytes_u8 : ∀ l : List UInt8, aConvert.bytesFrom (l.map fun c => Value.int .u8 c.toNat) = some l
  | [] => rfl
  | c :: r => by
    show (match aConvert.bytesFrom (r.map fun c => Value.int .u8 c.toNat) with | some l => some (UInt8.ofNat ((c.toNat : Int)).toNat :: l) | none => none) = _
    rw [bytes_u8 r]
    simp

theorem tail_str (S : AState) (N c : Nat) (l : List UInt8) (hg : S.get N = some (.row (List.replicate c zA ++ l.map u8A) 24 70 true)) (hl : c + l.length = 24) (h0 : 0 < l.length) :
    aSlice Tryz.prog S 70 (.ptr N 0) (some (.lit (.int .i64 (c : Int)))) none none = some (.slice N c l.length (some l.length)) ∧
    aConvert Tryz.prog S 55 9 (.slice N c l.length (some l.length)) = some (.val (.lit (.string ⟨l.toArray⟩)), S) := by
  constructor
  · have hu : Tryz.prog.underlying 70 = some (.array 24 5) := Tryz.underlying70
    have hb1 : bnd 0 (some (.lit (.int .i64 (c : Int)))) = some c := rfl
    have hb2 : bnd 24 none = some 24 := rfl
    unfold aSlice
    simp only [hu, sT5, obind_val, hb1, hb2]
    rw [if_pos (by simp; omega)]
    unfold subSlice
    rw [if_neg (by simp; omega)]
    have : 24 - c = l.length := by omega
    simp [this]
  · have h1 : Tryz.prog.underlying 55 = some (.slice 5) := Tryz.underlying55
    have h2 : Tryz.prog.underlying 9 = some .string := Tryz.underlying9
    have h3 : Tryz.prog.underlying 5 = some (.int .u8) := Tryz.underlying5
    have hcs : aCells S 1 (.slice N c l.length (some l.length)) = some (l.map u8A) := by
      unfold aCells
      show (if (l.length == 0) = true then _ else (match S.get N with | some (.row cells _ _ _) => _ | _ => _)) = _
      rw [if_neg (by rw [beq_iff_eq]; omega)]
      simp only [hg]
      rw [if_pos (by rw [List.length_append, List.length_replicate, List.length_map]; omega)]
      simp [List.drop_append, List.take_of_length_le]
    unfold aConvert
    simp only [h1, h2, h3, hcs, obind_val, flat_u8, bytes_u8]
    rw [if_neg (by omega)]
    rfl

/-- the calls that ints.Show makes -/
structure HookW (hook : Hook) : Prop where
  h16 : ∀ a S, hook 16 a S = none
  h31 : ∀ x S, -9223372036854775808 ≤ x → x ≤ 9223372036854775807 → hook 31 [.lit (.int .i64 x)] S = some (some (.lit (.int .i64 (wrap63 x)), S))

theorem wrap63_bd (x : Int) (h1 : -9223372036854775808 ≤ x) (h2 : x ≤ 9223372036854775807) : -4611686018427387904 ≤ wrap63 x ∧ wrap63 x ≤ 4611686018427387903 := by
  unfold wrap63; split <;> (try split) <;> omega

set_option maxRecDepth 20000 in
/-- ints.Show, by the abstract machine -/
theorem am16 (hook : Hook) (hk : HookW hook) (fuel n : Nat) (x : Int) (S : AState) (hS : S.next < 60000) (hf : 20 ≤ fuel) (h1 : -9223372036854775808 ≤ x) (h2 : x ≤ 9223372036854775807) :
    ∃ S', (arecs eS hook fuel (n + 2)).call 16 [.lit (.int .i64 x)] S = some (.lit (.string ⟨(showL (wrap63 x)).toArray⟩), S') := by
  have c31 : ∀ S, (arecs eS hook fuel (n + 1)).call 31 [.lit (.int .i64 x)] S = some (.lit (.int .i64 (wrap63 x)), S) := fun S => call_hook (hk.h31 x S h1 h2)
  obtain ⟨w1, w2⟩ := wrap63_bd x h1 h2
  generalize hw : wrap63 x = w at *
  obtain ⟨N, hN⟩ : ∃ N, N = S.next := ⟨_, rfl⟩
  obtain ⟨S1, hS1⟩ : ∃ A, A = (S.put N (.row (List.replicate 24 zA) 24 70 true)).bump := ⟨_, rfl⟩
  have n1 : aNewRow S (List.replicate 24 zA) 24 70 true = some (N, S1) := by
    have := new_eq S (.row (List.replicate 24 zA) 24 70 true) (by omega); rw [← hN, ← hS1] at this; exact this
  obtain ⟨b, hb⟩ : ∃ b, b = decide (w < 0) := ⟨_, rfl⟩
  have hsg : w = sg b w.natAbs := by unfold sg; rw [hb]; by_cases h : w < 0 <;> simp [h] <;> omega
  obtain ⟨m, hm⟩ : ∃ m, m = w.natAbs := ⟨_, rfl⟩
  rw [← hm] at hsg
  obtain ⟨tm, htm⟩ : ∃ tm, tm = tput (tput (tput (tput (tput (tput (tput (tput (tput (tput .nil 0 (.lit (.int .i64 x))) 2 (.lit (.string ⟨#[]⟩))) 7 (.lit (.int .i64 x))) 8 (.lit (.int .i64 w))) 0 (.lit (.int .i64 w))) 3 (.ptr N 0)) 4 (.lit (.int .i64 24))) 9 (.lit (.int .i64 w))) 10 (.lit (.bool b))) 5 (.lit (.bool b)) := ⟨_, rfl⟩
  have t0 : tget tm 36 0 = .lit (.int .i64 (sg b m)) := by rw [← hsg, htm]; simp (disch := omega) only [tget_tput, Nat.reduceEqDiff, ↓reduceIte]
  have t3 : tget tm 36 3 = .ptr N 0 := by rw [htm]; simp (disch := omega) only [tget_tput, Nat.reduceEqDiff, ↓reduceIte]
  have t4 : tget tm 36 4 = .lit (.int .i64 ((23 + 1 : Nat) : Int)) := by rw [htm]; simp (disch := omega) only [tget_tput, Nat.reduceEqDiff, ↓reduceIte]; rfl
  have t5 : tget tm 36 5 = .lit (.bool b) := by rw [htm]; simp (disch := omega) only [tget_tput, Nat.reduceEqDiff, ↓reduceIte]
  have hg1 : S1.get N = some (.row (List.replicate (23 + 1) zA ++ []) 24 70 true) := by rw [hS1, get_bump, get_put _ _ _ _ (by omega), if_pos rfl, List.append_nil]
  obtain ⟨tm', S2, hr, u3, u4, u5, _, _, hg2⟩ := show_loop (arecs eS hook fuel (n + 1)) fuel N (by omega) b 18 fuel m 23 tm S1 [] (by omega) (by omega) (by omega) (by omega) (by omega) t0 t3 t4 hg1
  have hlen := numL_len 18 m (by omega)
  have hpos := numL_pos m
  rw [t5] at u5
  rw [List.append_nil] at hg2
  obtain ⟨c, hc⟩ : ∃ c, c = 23 + 1 - (numL m).length := ⟨_, rfl⟩
  rw [← hc] at u4 hg2
  rw [htm] at hr
  simp only [lpB, Tryz.f16, lpOf, orE_some, orE_none] at hr
  cases hbb : b with
  | false =>
    rw [hbb] at hb u5 hr
    have hsl := tail_str S2 N c (numL m) hg2 (by omega) hpos
    have hshow : showL w = numL m := by unfold showL; rw [if_neg (by simpa using hb), hm]
    have hcode : ∃ fr, acode eS (arecs eS hook fuel (n + 1)) none fuel (match Tryz.f16.body with | some c => c | none => .skip) ⟨putArgs 0 [.lit (.int .i64 x)] .nil, 36, []⟩ S = some (.ret, ⟨fr, 36, []⟩, S2) ∧ tget fr 36 2 = .lit (.string ⟨(numL m).toArray⟩) := by
      simp (disch := omega) only [Tryz.f16, code_loop, putArgs_cons, putArgs_nil, Nat.zero_add, call31, c31, zT70, zc70, List.length_replicate, n1, lss_i64, ← hb, hr, u3, u4, u5, aop_slice, Option.map_some, Option.map_none, hsl.1, aop_convert, hsl.2, code_seq, code_region, code_cond, code_block, code_skip, code_ret, code_exit, codeK_eq, seqK_normal, seqK_ret, seqK_exit, blockK_normal, blockK_ret, blockK_exit, condK_true, condK_false, regK_eq, putK_eq, oper_eq, operK_val, operK_enter, operK_round, opsK_eq, ops_cons, ops_nil, wantK_true, wantK_false, wanted_0, wanted_g, guardK_some, isB_bool, ↓reduceIte, obind_val, aop_move, aop_assign, aop_store, aop_load, aop_alloc, aop_box, aop_makeFunc, aop_binOp, aop_callv, aop_callb, aop_pick, aop_extract, aop_buildSlice, aop_unOp, pickK_true, pickK_false, extK_lit, extK_tup, unK_not, val_some, unit_some, eval_tmp, eval_const, eval_func, get_mk, put_mk, put_none, tget_tput, get_put, get_bump, next_bump, next_put, next_kill, Nat.reduceEqDiff, ret_eq, evalList, evalParts, eS_P, List.getElem?_cons, Nat.reduceSub, Bool.false_eq_true, beq_self_eq_true, Bool.not_true, Bool.not_false, b_tf, b_ft, b_tt, b_ff]
      refine ⟨_, rfl, ?_⟩
      simp (disch := omega) only [tget_tput, Nat.reduceEqDiff, ↓reduceIte]
    obtain ⟨fr, hcode, hv⟩ := hcode
    rw [hshow]
    refine ⟨S2, call_fin (vs := [.lit (.string ⟨(numL m).toArray⟩)]) (size := 36) (hk.h16 _ _) Tryz.func16 rfl rfl (by decide) hcode (.inr rfl) rfl ?_⟩
    show obind (some (tget fr 36 2)) _ = _
    rw [hv]
    rfl
  | true =>
    rw [hbb] at hb u5 hr
    obtain ⟨c', hc'⟩ : ∃ c', c = c' + 1 := ⟨c - 1, by omega⟩
    have hwr : IntKind.i64.wrap ((c : Int) - 1) = (c' : Int) := by rw [IntWalk.i64_in _ ⟨by omega, by omega⟩]; omega
    have hia : aIndexAddr Tryz.prog 70 (.ptr N 0) (.lit (.int .i64 (c' : Int))) = some (.ptr N c') := by
      have hu : Tryz.prog.underlying 70 = some (.array 24 5) := Tryz.underlying70
      show obind (some c') (fun i => _) = _
      simp only [obind_val, hu, sT5]
      rw [if_pos (by omega)]
      simp
    obtain ⟨S3, hS3⟩ : ∃ A, A = S2.put N (.row (List.replicate c' zA ++ u8A 45 :: (numL m).map u8A) 24 70 true) := ⟨_, rfl⟩
    have hst : aStore Tryz.prog S2 5 (.ptr N c') (.lit (.int .u8 45)) = some S3 := by
      rw [hS3]; exact store_mid S2 N c' _ (u8A 45) (by rw [hg2, hc']) rfl rfl sT5
    have hg3 : S3.get N = some (.row (List.replicate c' zA ++ (45 :: numL m).map u8A) 24 70 true) := by rw [hS3, get_put _ _ _ _ (by omega), if_pos rfl]; rfl
    have hsl := tail_str S3 N c' (45 :: numL m) hg3 (by simp; omega) (by simp)
    have hshow : showL w = 45 :: numL m := by unfold showL; rw [if_pos (by simpa using hb.symm), hm]
    have hcode : ∃ fr, acode eS (arecs eS hook fuel (n + 1)) none fuel (match Tryz.f16.body with | some c => c | none => .skip) ⟨putArgs 0 [.lit (.int .i64 x)] .nil, 36, []⟩ S = some (.ret, ⟨fr, 36, []⟩, S3) ∧ tget fr 36 2 = .lit (.string ⟨(45 :: numL m).toArray⟩) := by
      simp (disch := omega) only [Tryz.f16, code_loop, putArgs_cons, putArgs_nil, Nat.zero_add, call31, c31, zT70, zc70, List.length_replicate, n1, lss_i64, ← hb, hr, u3, u4, u5, sub_i64, hwr, aop_indexAddr, hia, hst, aop_slice, Option.map_some, Option.map_none, hsl.1, aop_convert, hsl.2, code_seq, code_region, code_cond, code_block, code_skip, code_ret, code_exit, codeK_eq, seqK_normal, seqK_ret, seqK_exit, blockK_normal, blockK_ret, blockK_exit, condK_true, condK_false, regK_eq, putK_eq, oper_eq, operK_val, operK_enter, operK_round, opsK_eq, ops_cons, ops_nil, wantK_true, wantK_false, wanted_0, wanted_g, guardK_some, isB_bool, ↓reduceIte, obind_val, aop_move, aop_assign, aop_store, aop_load, aop_alloc, aop_box, aop_makeFunc, aop_binOp, aop_callv, aop_callb, aop_pick, aop_extract, aop_buildSlice, aop_unOp, pickK_true, pickK_false, extK_lit, extK_tup, unK_not, val_some, unit_some, eval_tmp, eval_const, eval_func, get_mk, put_mk, put_none, tget_tput, get_put, get_bump, next_bump, next_put, next_kill, Nat.reduceEqDiff, ret_eq, evalList, evalParts, eS_P, List.getElem?_cons, Nat.reduceSub, Bool.false_eq_true, beq_self_eq_true, Bool.not_true, Bool.not_false, b_tf, b_ft, b_tt, b_ff]
      refine ⟨_, rfl, ?_⟩
      simp (disch := omega) only [tget_tput, Nat.reduceEqDiff, ↓reduceIte]
    obtain ⟨fr, hcode, hv⟩ := hcode
    rw [hshow]
    refine ⟨S3, call_fin (vs := [.lit (.string ⟨(45 :: numL m).toArray⟩)]) (size := 36) (hk.h16 _ _) Tryz.func16 rfl rfl (by decide) hcode (.inr rfl) rfl ?_⟩
    show obind (some (tget fr 36 2)) _ = _
    rw [hv]
    rfl
end Go.Proofs

namespace Go.Proofs
set_option linter.unusedVariables false
set_option linter.unusedSimpArgs false
open Go.AM Go.RowKit

/-- THE DOOR: a call with arguments that need no heap, from nothing -/
theorem am_door0 {E : Env} (hE : EnvOk E) (hmix : E.P.follows .mixedOrders = true) {hook : Hook} (hH : HookOk E hook) {fuel n : Nat} {f : FuncId} {args : List AV} {us : List Value} {v : AV} {S' : AState}
    (hargs : ∀ σ, concL σ args = some us) (ha : (arecs E hook fuel n).call f args { heap := .nil, next := 0 } = some (v, S')) (w : World) :
    Calls E.P f us.toArray w fun e w' => ∃ σ' u, e = .returned u ∧ conc σ' v = some u ∧ Rel σ' S' w' ∧ Below w.heap.size w w' := by
  have h0 : Rel (fun _ => none) { heap := .nil, next := 0 } w := by
    refine ⟨fun _ _ => rfl, ?_, ?_, ?_⟩
    · intro _ _ h; cases h
    · intro id o ho; rw [empty_get] at ho; cases ho
    · intro id _ o _ _ _ ho; rw [empty_get] at ho; cases ho
  have hc := (arecs_ok hE (draw_ok hE hmix) hH fuel n).call f args _ v S' ha (fun _ => none) w us h0 (hargs _)
  refine callsIn_wide.1 (hc.mono fun e w' he => ?_)
  obtain ⟨u, σ', h1, h2, h3, h4⟩ := he
  refine ⟨σ', u, h1, h2, h3, h4.os, h4.tape, h4.output, h4.size, fun c hc => (h4.keep c hc ?_).1⟩
  rintro ⟨id, o, l, ho, _⟩
  rw [empty_get] at ho; cases ho

noncomputable def hookW : Hook := fun f args S =>
  if f = 31 then
    match args with
    | [.lit (.int .i64 x)] => if -9223372036854775808 ≤ x ∧ x ≤ 9223372036854775807 then some (some (.lit (.int .i64 (wrap63 x)), S)) else none
    | _ => none
  else none

theorem hookW_ok : HookW hookW := by
  refine ⟨fun _ _ => rfl, fun x S h1 h2 => ?_⟩
  show (if -9223372036854775808 ≤ x ∧ x ≤ 9223372036854775807 then _ else _) = _
  rw [if_pos ⟨h1, h2⟩]

theorem hookOkW : HookOk eS hookW := by
  intro f args S v S' h σ w us hr hargs
  unfold hookW at h
  split at h
  · rename_i hf
    subst hf
    split at h
    · rename_i x
      split at h
      · rename_i hx
        simp only [Option.some.injEq, Prod.mk.injEq] at h
        obtain ⟨rfl, rfl⟩ := h
        obtain ⟨y, l, rfl, h1, h2⟩ := concL_cons hargs
        have h3 : some [] = some l := h2
        cases h3
        have h4 : some (Value.int .i64 x) = some y := h1
        cases h4
        refine (callsIn_wide.2 (walk_wrap x w hx.1 hx.2)).mono fun e w' he => ?_
        obtain ⟨rfl, rfl⟩ := he
        exact ⟨_, σ, rfl, rfl, hr, Ext.refl σ _ _⟩
      · cases h
    · cases h
  · cases h

theorem nogoW : (Tryz.prog.funcs.toList.all fun fn => !(fn.name == "runtime.NumGoroutine")) = true := by kernel_rfl
theorem envOkW : EnvOk eS := by
  refine ⟨fun f fn hf => ?_, fun f k hk => ?_⟩
  · have h1 := List.all_eq_true.1 nogoW fn (Array.mem_toList_iff.2 (Array.mem_of_getElem? hf))
    simpa using h1
  · cases hk

/-- ints.Show: the digits of the number, wrapped -/
def ShowPost (x : Int) (w : World) (e : Ending) (w' : World) : Prop := e = .returned (.string ⟨(showL (wrap63 x)).toArray⟩) ∧ Below w.heap.size w w'
theorem walk_show (x : Int) (w : World) (h1 : -9223372036854775808 ≤ x) (h2 : x ≤ 9223372036854775807) : Calls Tryz.prog 16 #[.int .i64 x] w (ShowPost x w) := by
  obtain ⟨S', hc⟩ := am16 hookW hookW_ok 100 3 x { heap := .nil, next := 0 } (by show 0 < 60000; omega) (by omega) h1 h2
  have hargs : ∀ σ, concL σ [.lit (.int .i64 x)] = some [.int .i64 x] := fun _ => rfl
  refine (am_door0 envOkW (by kernel_rfl) hookOkW hargs hc w).mono fun e w' he => ?_
  obtain ⟨σ', u, rfl, hu, _, hb⟩ := he
  have : some (Value.string ⟨(showL (wrap63 x)).toArray⟩) = some u := hu
  cases this
  exact ⟨rfl, hb⟩
end Go.Proofs

namespace Go.Proofs
set_option linter.unusedVariables false
set_option linter.unusedSimpArgs false
open Go.AM Go.RowKit
set_option linter.unusedSimpArgs false

theorem add_str (P : Program) (t : TypeId) (ox oy : Operand) (a b : ByteArray) (h : a.size + b.size ≤ 1000000) : aBinOp P .add t ox oy (.lit (.string a)) (.lit (.string b)) = some (.lit (.string (a ++ b))) := by
  show (pureRun P (Op.stringOp .add a b)).map AV.lit = _
  have : Op.stringOp .add a b = pure (.string (a ++ b)) := by
    unfold Op.stringOp
    show (if _ then _ else _) = _
    have hm : IntKind.i64.max = 9223372036854775807 := by decide
    rw [if_neg (by rw [hm]; omega)]
  rw [this]; rfl
theorem app_mk (a b : List UInt8) : (⟨a.toArray⟩ : ByteArray) ++ ⟨b.toArray⟩ = ⟨(a ++ b).toArray⟩ := by
  apply ByteArray.ext
  rw [ByteArray.data_append]
  simp

theorem info5 : (Tryz.prog.info? 5).map (fun i => (i.zero, i.size, i.bytes)) = some (some (.int .u8 0), 1, 1) := by kernel_rfl
theorem build55 (S : AState) (c : UInt8) (h : S.next < 65536) : aBuildSlice Tryz.prog S 55 1 [(0, u8A c)] = some (.val (.slice S.next 0 1 (some 1)), (S.put S.next (.row [u8A c] 1 5 true)).bump) := by
  unfold aBuildSlice
  have hu : Tryz.prog.underlying 55 = some (.slice 5) := Tryz.underlying55
  have hz : zeroT Tryz.prog 5 = some (.lit (.int .u8 0)) := by kernel_rfl
  simp only [hu, sT5, obind_val, hz]
  rw [if_neg (by decide), if_neg (by decide)]
  show obind (some [u8A c]) _ = _
  simp only [obind_val]
  have hl1 : ([u8A c].length == 1 * 1) = true := rfl
  rw [if_pos hl1]
  have hn : aNewRow S [u8A c] 1 5 true = some (S.next, (S.put S.next (.row [u8A c] 1 5 true)).bump) := new_eq S (.row [u8A c] 1 5 true) h
  rw [hn]
  rfl

theorem conv_one (S : AState) (N : Nat) (c : UInt8) (hg : S.get N = some (.row [u8A c] 1 5 true)) : aConvert Tryz.prog S 55 9 (.slice N 0 1 (some 1)) = some (.val (.lit (.string ⟨[c].toArray⟩)), S) := by
  have h1 : Tryz.prog.underlying 55 = some (.slice 5) := Tryz.underlying55
  have h2 : Tryz.prog.underlying 9 = some .string := Tryz.underlying9
  have h3 : Tryz.prog.underlying 5 = some (.int .u8) := Tryz.underlying5
  have hcs : aCells S 1 (.slice N 0 1 (some 1)) = some ([c].map u8A) := by
    unfold aCells
    show (if ((1 : Nat) == 0) = true then _ else (match S.get N with | some (.row cells _ _ _) => _ | _ => _)) = _
    rw [if_neg (by decide)]
    simp only [hg]
    rfl
  unfold aConvert
  simp only [h1, h2, h3, hcs, obind_val, flat_u8, bytes_u8]
  rw [if_neg (by omega)]
  rfl

set_option maxRecDepth 20000 in
/-- a round of selvageref01.Show -/
theorem ref_round (R : Recs) (fuel : Nat) (tm : T AV) (S : AState) (m : Nat) (b : Bool) (acc : List UInt8) (hm : m ≤ 4611686018427387904) (h0 : 0 < m) (hS : S.next < 65536) (hac : acc.length ≤ 1000)
    (t0 : tget tm 33 0 = .lit (.int .i64 (sg b m))) (t3 : tget tm 33 3 = .lit (.string ⟨acc.toArray⟩)) :
    ∃ tm', codeK eS R none fuel (lpB Tryz.f18.body) ⟨tm, 33, []⟩ S = some (.normal, ⟨tm', 33, []⟩, (S.put S.next (.row [u8A (UInt8.ofNat (48 + m % 10))] 1 5 true)).bump) ∧
      tget tm' 33 0 = .lit (.int .i64 (sg b (m / 10))) ∧ tget tm' 33 3 = .lit (.string ⟨(UInt8.ofNat (48 + m % 10) :: acc).toArray⟩) ∧ tget tm' 33 4 = tget tm 33 4 := by
  have hq : IntKind.i64.wrap ((sg b m).tdiv 10) = sg b (m / 10) := by
    rw [sg_quo]; have := sg_bd b (m / 10) 4611686018427387904 (by omega); exact IntWalk.i64_in _ ⟨by omega, by omega⟩
  have hne : (sg b m != 0) = true := by unfold sg; split <;> simp <;> omega
  have h48 : IntKind.i64.wrap (48 + ((m % 10 : Nat) : Int)) = ((48 + m % 10 : Nat) : Int) := by rw [IntWalk.i64_in _ ⟨by omega, by omega⟩]; omega
  have hu8 : IntKind.u8.wrap (((48 + m % 10 : Nat) : Int)) = ((UInt8.ofNat (48 + m % 10)).toNat : Int) := by
    rw [IntKind.wrap_u8]
    have : (UInt8.ofNat (48 + m % 10)).toNat = 48 + m % 10 := by simp; omega
    rw [this]; omega
  have hu8A : (AV.lit (.int .u8 ((UInt8.ofNat (48 + m % 10)).toNat : Int))) = u8A (UInt8.ofNat (48 + m % 10)) := rfl
  have hbd := build55 S (UInt8.ofNat (48 + m % 10)) hS
  have hcv := conv_one (S.put S.next (.row [u8A (UInt8.ofNat (48 + m % 10))] 1 5 true)).bump S.next (UInt8.ofNat (48 + m % 10)) (by rw [get_bump, get_put _ _ _ _ hS, if_pos rfl])
  have hap : ∀ P t ox oy, aBinOp P .add t ox oy (.lit (.string ⟨[UInt8.ofNat (48 + m % 10)].toArray⟩)) (.lit (.string ⟨acc.toArray⟩)) = some (.lit (.string ⟨(UInt8.ofNat (48 + m % 10) :: acc).toArray⟩)) := by
    intro P t ox oy
    rw [add_str _ _ _ _ _ _ (by rw [size_mk, size_mk]; simp; omega), app_mk]; rfl
  simp only [lpB, Tryz.f18, lpOf, orE_some, orE_none]
  by_cases hneg : sg b (m % 10) < 0
  · have hd : decide (sg b (m % 10) < 0) = true := decide_eq_true hneg
    have hn : IntKind.i64.wrap (0 - sg b (m % 10)) = ((m % 10 : Nat) : Int) := by
      have : sg b (m % 10) = -((m % 10 : Nat) : Int) := by unfold sg at hneg ⊢; split at hneg <;> simp_all; omega
      rw [this, IntWalk.i64_in _ ⟨by omega, by omega⟩]; omega
    simp (disch := omega) only [code_seq, code_region, code_cond, code_block, code_skip, code_ret, code_exit, codeK_eq, seqK_normal, seqK_ret, seqK_exit, blockK_normal, blockK_ret, blockK_exit, condK_true, condK_false, regK_eq, putK_eq, oper_eq, operK_val, operK_enter, operK_round, opsK_eq, ops_cons, ops_nil, wantK_true, wantK_false, wanted_0, wanted_g, guardK_some, isB_bool, ↓reduceIte, obind_val, aop_move, aop_assign, aop_store, aop_load, aop_alloc, aop_box, aop_makeFunc, aop_binOp, aop_callv, aop_callb, aop_pick, aop_extract, aop_buildSlice, aop_unOp, pickK_true, pickK_false, extK_lit, extK_tup, unK_not, val_some, unit_some, eval_tmp, eval_const, eval_func, get_mk, put_mk, put_none, tget_tput, get_put, get_bump, next_bump, next_put, next_kill, Nat.reduceEqDiff, ret_eq, evalList, evalParts, eS_P, List.getElem?_cons, Nat.reduceSub, Bool.false_eq_true, beq_self_eq_true, Bool.not_true, Bool.not_false, b_tf, b_ft, b_tt, b_ff, t0, t3, neq_i64, hne, rem_i64, sg_rem, lss_i64, hd, sub_i64, hn, add_i64, h48, aop_convert, conv_u8, hu8, hu8A, hbd, hcv, hap, quo_i64, hq]
    refine ⟨_, rfl, ?_, ?_, ?_⟩ <;> simp (disch := omega) only [tget_tput, Nat.reduceEqDiff, ↓reduceIte, t0, t3]
  · have hd : decide (sg b (m % 10) < 0) = false := decide_eq_false hneg
    have hn : sg b (m % 10) = ((m % 10 : Nat) : Int) := by unfold sg at hneg ⊢; split at hneg <;> simp_all <;> omega
    rw [hn] at hd
    simp (disch := omega) only [code_seq, code_region, code_cond, code_block, code_skip, code_ret, code_exit, codeK_eq, seqK_normal, seqK_ret, seqK_exit, blockK_normal, blockK_ret, blockK_exit, condK_true, condK_false, regK_eq, putK_eq, oper_eq, operK_val, operK_enter, operK_round, opsK_eq, ops_cons, ops_nil, wantK_true, wantK_false, wanted_0, wanted_g, guardK_some, isB_bool, ↓reduceIte, obind_val, aop_move, aop_assign, aop_store, aop_load, aop_alloc, aop_box, aop_makeFunc, aop_binOp, aop_callv, aop_callb, aop_pick, aop_extract, aop_buildSlice, aop_unOp, pickK_true, pickK_false, extK_lit, extK_tup, unK_not, val_some, unit_some, eval_tmp, eval_const, eval_func, get_mk, put_mk, put_none, tget_tput, get_put, get_bump, next_bump, next_put, next_kill, Nat.reduceEqDiff, ret_eq, evalList, evalParts, eS_P, List.getElem?_cons, Nat.reduceSub, Bool.false_eq_true, beq_self_eq_true, Bool.not_true, Bool.not_false, b_tf, b_ft, b_tt, b_ff, t0, t3, neq_i64, hne, rem_i64, sg_rem, hn, lss_i64, hd, sub_i64, add_i64, h48, aop_convert, conv_u8, hu8, hu8A, hbd, hcv, hap, quo_i64, hq]
    refine ⟨_, rfl, ?_, ?_, ?_⟩ <;> simp (disch := omega) only [tget_tput, Nat.reduceEqDiff, ↓reduceIte, t0, t3]

set_option maxRecDepth 20000 in
theorem ref_end (R : Recs) (fuel : Nat) (tm : T AV) (S : AState) (b : Bool) (t0 : tget tm 33 0 = .lit (.int .i64 (sg b 0))) :
    ∃ tm', codeK eS R none fuel (lpB Tryz.f18.body) ⟨tm, 33, []⟩ S = some (.exit 0, ⟨tm', 33, []⟩, S) ∧ tget tm' 33 3 = tget tm 33 3 ∧ tget tm' 33 4 = tget tm 33 4 := by
  have hne : (sg b 0 != 0) = false := by cases b <;> rfl
  simp only [lpB, Tryz.f18, lpOf, orE_some, orE_none]
  simp (disch := omega) only [code_seq, code_region, code_cond, code_block, code_skip, code_ret, code_exit, codeK_eq, seqK_normal, seqK_ret, seqK_exit, blockK_normal, blockK_ret, blockK_exit, condK_true, condK_false, regK_eq, putK_eq, oper_eq, operK_val, operK_enter, operK_round, opsK_eq, ops_cons, ops_nil, wantK_true, wantK_false, wanted_0, wanted_g, guardK_some, isB_bool, ↓reduceIte, obind_val, aop_move, aop_assign, aop_store, aop_load, aop_alloc, aop_box, aop_makeFunc, aop_binOp, aop_callv, aop_callb, aop_pick, aop_extract, aop_buildSlice, aop_unOp, pickK_true, pickK_false, extK_lit, extK_tup, unK_not, val_some, unit_some, eval_tmp, eval_const, eval_func, get_mk, put_mk, put_none, tget_tput, get_put, get_bump, next_bump, next_put, next_kill, Nat.reduceEqDiff, ret_eq, evalList, evalParts, eS_P, List.getElem?_cons, Nat.reduceSub, Bool.false_eq_true, beq_self_eq_true, Bool.not_true, Bool.not_false, b_tf, b_ft, b_tt, b_ff, t0, neq_i64, hne]
  refine ⟨_, rfl, ?_, ?_⟩ <;> simp (disch := omega) only [tget_tput, Nat.reduceEqDiff, ↓reduceIte]

def numZ (m : Nat) : List UInt8 := if m = 0 then [] else numL m
theorem numZ_step (m : Nat) (h : 0 < m) : numZ m = numZ (m / 10) ++ [UInt8.ofNat (48 + m % 10)] := by
  unfold numZ
  rw [if_neg (by omega)]
  by_cases h1 : m < 10
  · rw [numL_small h1, if_pos (by omega)]; rfl
  · rw [numL_big h1, if_neg (by omega)]

theorem ref_loop (R : Recs) (fuel : Nat) (b : Bool) : ∀ (d k m : Nat) (tm : T AV) (S : AState) (acc : List UInt8), m < 10 ^ d → m ≤ 4611686018427387904 → d < k → S.next + d < 65536 → acc.length + d ≤ 1000 →
    tget tm 33 0 = .lit (.int .i64 (sg b m)) → tget tm 33 3 = .lit (.string ⟨acc.toArray⟩) →
    ∃ tm' S', arounds (codeK eS R none fuel (lpB Tryz.f18.body)) k ⟨tm, 33, []⟩ S = some (.exit 0, ⟨tm', 33, []⟩, S') ∧ tget tm' 33 3 = .lit (.string ⟨(numZ m ++ acc).toArray⟩) ∧ tget tm' 33 4 = tget tm 33 4 := by
  intro d
  induction d with
  | zero =>
    intro k m tm S acc hm hm2 hk hS hac t0 t3
    obtain ⟨k, rfl⟩ : ∃ k', k = k' + 1 := ⟨k - 1, by omega⟩
    obtain rfl : m = 0 := by simp at hm; exact hm
    obtain ⟨tm', h, u3, u4⟩ := ref_end R fuel tm S b t0
    exact ⟨tm', S, rounds_stop h (by intro e; cases e), by rw [u3, t3]; rfl, u4⟩
  | succ d ih =>
    intro k m tm S acc hm hm2 hk hS hac t0 t3
    obtain ⟨k, rfl⟩ : ∃ k', k = k' + 1 := ⟨k - 1, by omega⟩
    by_cases hz : m = 0
    · subst hz
      obtain ⟨tm', h, u3, u4⟩ := ref_end R fuel tm S b t0
      exact ⟨tm', S, rounds_stop h (by intro e; cases e), by rw [u3, t3]; rfl, u4⟩
    · obtain ⟨tm', h, u0, u3, u4⟩ := ref_round R fuel tm S m b acc hm2 (by omega) (by omega) (by omega) t0 t3
      obtain ⟨tm2, S2, h2, v3, v4⟩ := ih k (m / 10) tm' ((S.put S.next (.row [u8A (UInt8.ofNat (48 + m % 10))] 1 5 true)).bump) (UInt8.ofNat (48 + m % 10) :: acc) (by rw [Nat.pow_succ] at hm; omega) (by omega) (by omega) (by rw [next_bump, next_put]; omega) (by simp; omega) u0 u3
      refine ⟨tm2, S2, by rw [rounds_go h]; exact h2, ?_, v4.trans u4⟩
      rw [v3, numZ_step m (by omega)]
      simp

theorem call33 (S : AState) (args : List AV) : aCallY eS S (.lit (.func (.func 33) #[] #[])) args = some (.enter 33 args, S) := calY_lit S 33 args Tryz.f33 _ Tryz.func33 rfl
structure HookV (hook : Hook) : Prop where
  h18 : ∀ a S, hook 18 a S = none
  h33 : ∀ x S, -9223372036854775808 ≤ x → x ≤ 9223372036854775807 → hook 33 [.lit (.int .i64 x)] S = some (some (.lit (.int .i64 (wrap63 x)), S))

set_option maxRecDepth 20000 in
/-- selvageref01.Show, by the abstract machine -/
theorem am18 (hook : Hook) (hk : HookV hook) (fuel n : Nat) (x : Int) (S : AState) (hS : S.next < 60000) (hf : 30 ≤ fuel) (h1 : -9223372036854775808 ≤ x) (h2 : x ≤ 9223372036854775807) :
    ∃ S', (arecs eS hook fuel (n + 2)).call 18 [.lit (.int .i64 x)] S = some (.lit (.string ⟨(showL (wrap63 x)).toArray⟩), S') := by
  have c33 : ∀ S, (arecs eS hook fuel (n + 1)).call 33 [.lit (.int .i64 x)] S = some (.lit (.int .i64 (wrap63 x)), S) := fun S => call_hook (hk.h33 x S h1 h2)
  obtain ⟨w1, w2⟩ := wrap63_bd x h1 h2
  generalize hw : wrap63 x = w at *
  obtain ⟨b, hb⟩ : ∃ b, b = decide (w < 0) := ⟨_, rfl⟩
  have hsg : w = sg b w.natAbs := by unfold sg; rw [hb]; by_cases h : w < 0 <;> simp [h] <;> omega
  obtain ⟨m, hm⟩ : ∃ m, m = w.natAbs := ⟨_, rfl⟩
  rw [← hm] at hsg
  by_cases h0 : w = 0
  · have he : (w == 0) = true := by rw [h0]; rfl
    have hshow : showL w = [48] := by rw [h0]; unfold showL; rw [if_neg (by omega)]; show numL 0 = _; rw [numL_small (by omega)]; rfl
    have hcode : ∃ fr, acode eS (arecs eS hook fuel (n + 1)) none fuel (match Tryz.f18.body with | some c => c | none => .skip) ⟨putArgs 0 [.lit (.int .i64 x)] .nil, 33, []⟩ S = some (.ret, ⟨fr, 33, []⟩, S) ∧ tget fr 33 2 = .lit (.string ⟨[48].toArray⟩) := by
      simp (disch := omega) only [Tryz.f18, putArgs_cons, putArgs_nil, Nat.zero_add, call33, c33, eql_i64, he, code_seq, code_region, code_cond, code_block, code_skip, code_ret, code_exit, codeK_eq, seqK_normal, seqK_ret, seqK_exit, blockK_normal, blockK_ret, blockK_exit, condK_true, condK_false, regK_eq, putK_eq, oper_eq, operK_val, operK_enter, operK_round, opsK_eq, ops_cons, ops_nil, wantK_true, wantK_false, wanted_0, wanted_g, guardK_some, isB_bool, ↓reduceIte, obind_val, aop_move, aop_assign, aop_store, aop_load, aop_alloc, aop_box, aop_makeFunc, aop_binOp, aop_callv, aop_callb, aop_pick, aop_extract, aop_buildSlice, aop_unOp, pickK_true, pickK_false, extK_lit, extK_tup, unK_not, val_some, unit_some, eval_tmp, eval_const, eval_func, get_mk, put_mk, put_none, tget_tput, get_put, get_bump, next_bump, next_put, next_kill, Nat.reduceEqDiff, ret_eq, evalList, evalParts, eS_P, List.getElem?_cons, Nat.reduceSub, Bool.false_eq_true, beq_self_eq_true, Bool.not_true, Bool.not_false, b_tf, b_ft, b_tt, b_ff]
      refine ⟨_, rfl, ?_⟩
      simp (disch := omega) only [tget_tput, Nat.reduceEqDiff, ↓reduceIte]
    obtain ⟨fr, hcode, hv⟩ := hcode
    rw [hshow]
    refine ⟨S, call_fin (vs := [.lit (.string ⟨[48].toArray⟩)]) (size := 33) (hk.h18 _ _) Tryz.func18 rfl rfl (by decide) hcode (.inr rfl) rfl ?_⟩
    show obind (some (tget fr 33 2)) _ = _
    rw [hv]
    rfl
  · have he : (w == 0) = false := by simpa using h0
    obtain ⟨tm, htm⟩ : ∃ tm, tm = tput (tput (tput (tput (tput (tput (tput (tput (tput (tput (tput .nil 0 (.lit (.int .i64 x))) 2 (.lit (.string ⟨#[]⟩))) 6 (.lit (.int .i64 x))) 7 (.lit (.int .i64 w))) 0 (.lit (.int .i64 w))) 8 (.lit (.int .i64 w))) 9 (.lit (.bool false))) 3 (.lit (.string ⟨#[]⟩))) 10 (.lit (.int .i64 w))) 11 (.lit (.bool b))) 4 (.lit (.bool b)) := ⟨_, rfl⟩
    have t0 : tget tm 33 0 = .lit (.int .i64 (sg b m)) := by rw [← hsg, htm]; simp (disch := omega) only [tget_tput, Nat.reduceEqDiff, ↓reduceIte]
    have t3 : tget tm 33 3 = .lit (.string ⟨([] : List UInt8).toArray⟩) := by rw [htm]; simp (disch := omega) only [tget_tput, Nat.reduceEqDiff, ↓reduceIte]
    have t4 : tget tm 33 4 = .lit (.bool b) := by rw [htm]; simp (disch := omega) only [tget_tput, Nat.reduceEqDiff, ↓reduceIte]
    obtain ⟨tm', S2, hr, u3, u4⟩ := ref_loop (arecs eS hook fuel (n + 1)) fuel b 19 fuel m tm S [] (by omega) (by omega) (by omega) (by omega) (by simp) t0 t3
    have hz : numZ m ++ [] = numL m := by rw [List.append_nil]; unfold numZ; rw [if_neg (by omega)]
    rw [t4] at u4
    rw [hz] at u3
    rw [htm] at hr
    simp only [lpB, Tryz.f18, lpOf, orE_some, orE_none] at hr
    cases hbb : b with
    | false =>
      rw [hbb] at hb u4 hr
      have hshow : showL w = numL m := by unfold showL; rw [if_neg (by simpa using hb), hm]
      have hcode : ∃ fr, acode eS (arecs eS hook fuel (n + 1)) none fuel (match Tryz.f18.body with | some c => c | none => .skip) ⟨putArgs 0 [.lit (.int .i64 x)] .nil, 33, []⟩ S = some (.ret, ⟨fr, 33, []⟩, S2) ∧ tget fr 33 2 = .lit (.string ⟨(numL m).toArray⟩) := by
        simp (disch := omega) only [Tryz.f18, code_loop, putArgs_cons, putArgs_nil, Nat.zero_add, call33, c33, eql_i64, he, lss_i64, ← hb, hr, u3, u4, code_seq, code_region, code_cond, code_block, code_skip, code_ret, code_exit, codeK_eq, seqK_normal, seqK_ret, seqK_exit, blockK_normal, blockK_ret, blockK_exit, condK_true, condK_false, regK_eq, putK_eq, oper_eq, operK_val, operK_enter, operK_round, opsK_eq, ops_cons, ops_nil, wantK_true, wantK_false, wanted_0, wanted_g, guardK_some, isB_bool, ↓reduceIte, obind_val, aop_move, aop_assign, aop_store, aop_load, aop_alloc, aop_box, aop_makeFunc, aop_binOp, aop_callv, aop_callb, aop_pick, aop_extract, aop_buildSlice, aop_unOp, pickK_true, pickK_false, extK_lit, extK_tup, unK_not, val_some, unit_some, eval_tmp, eval_const, eval_func, get_mk, put_mk, put_none, tget_tput, get_put, get_bump, next_bump, next_put, next_kill, Nat.reduceEqDiff, ret_eq, evalList, evalParts, eS_P, List.getElem?_cons, Nat.reduceSub, Bool.false_eq_true, beq_self_eq_true, Bool.not_true, Bool.not_false, b_tf, b_ft, b_tt, b_ff]
        refine ⟨_, rfl, ?_⟩
        simp (disch := omega) only [tget_tput, Nat.reduceEqDiff, ↓reduceIte]
      obtain ⟨fr, hcode, hv⟩ := hcode
      rw [hshow]
      refine ⟨S2, call_fin (vs := [.lit (.string ⟨(numL m).toArray⟩)]) (size := 33) (hk.h18 _ _) Tryz.func18 rfl rfl (by decide) hcode (.inr rfl) rfl ?_⟩
      show obind (some (tget fr 33 2)) _ = _
      rw [hv]
      rfl
    | true =>
      rw [hbb] at hb u4 hr
      have hlen := numL_len 18 m (by omega)
      have hap : ∀ P t ox oy, aBinOp P .add t ox oy (.lit (.string ⟨#[45]⟩)) (.lit (.string ⟨(numL m).toArray⟩)) = some (.lit (.string ⟨(45 :: numL m).toArray⟩)) := by
        intro P t ox oy
        have h45 : (⟨#[45]⟩ : ByteArray) = ⟨[45].toArray⟩ := rfl
        rw [h45, add_str _ _ _ _ _ _ (by rw [size_mk, size_mk]; simp; omega), app_mk]; rfl
      have hshow : showL w = 45 :: numL m := by unfold showL; rw [if_pos (by simpa using hb.symm), hm]
      have hcode : ∃ fr, acode eS (arecs eS hook fuel (n + 1)) none fuel (match Tryz.f18.body with | some c => c | none => .skip) ⟨putArgs 0 [.lit (.int .i64 x)] .nil, 33, []⟩ S = some (.ret, ⟨fr, 33, []⟩, S2) ∧ tget fr 33 2 = .lit (.string ⟨(45 :: numL m).toArray⟩) := by
        simp (disch := omega) only [Tryz.f18, code_loop, putArgs_cons, putArgs_nil, Nat.zero_add, call33, c33, eql_i64, he, lss_i64, ← hb, hr, u3, u4, hap, code_seq, code_region, code_cond, code_block, code_skip, code_ret, code_exit, codeK_eq, seqK_normal, seqK_ret, seqK_exit, blockK_normal, blockK_ret, blockK_exit, condK_true, condK_false, regK_eq, putK_eq, oper_eq, operK_val, operK_enter, operK_round, opsK_eq, ops_cons, ops_nil, wantK_true, wantK_false, wanted_0, wanted_g, guardK_some, isB_bool, ↓reduceIte, obind_val, aop_move, aop_assign, aop_store, aop_load, aop_alloc, aop_box, aop_makeFunc, aop_binOp, aop_callv, aop_callb, aop_pick, aop_extract, aop_buildSlice, aop_unOp, pickK_true, pickK_false, extK_lit, extK_tup, unK_not, val_some, unit_some, eval_tmp, eval_const, eval_func, get_mk, put_mk, put_none, tget_tput, get_put, get_bump, next_bump, next_put, next_kill, Nat.reduceEqDiff, ret_eq, evalList, evalParts, eS_P, List.getElem?_cons, Nat.reduceSub, Bool.false_eq_true, beq_self_eq_true, Bool.not_true, Bool.not_false, b_tf, b_ft, b_tt, b_ff]
        refine ⟨_, rfl, ?_⟩
        simp (disch := omega) only [tget_tput, Nat.reduceEqDiff, ↓reduceIte]
      obtain ⟨fr, hcode, hv⟩ := hcode
      rw [hshow]
      refine ⟨S2, call_fin (vs := [.lit (.string ⟨(45 :: numL m).toArray⟩)]) (size := 33) (hk.h18 _ _) Tryz.func18 rfl rfl (by decide) hcode (.inr rfl) rfl ?_⟩
      show obind (some (tget fr 33 2)) _ = _
      rw [hv]
      rfl

noncomputable def hookV : Hook := fun f args S =>
  if f = 33 then
    match args with
    | [.lit (.int .i64 x)] => if -9223372036854775808 ≤ x ∧ x ≤ 9223372036854775807 then some (some (.lit (.int .i64 (wrap63 x)), S)) else none
    | _ => none
  else none
theorem hookV_ok : HookV hookV := by
  refine ⟨fun _ _ => rfl, fun x S h1 h2 => ?_⟩
  show (if -9223372036854775808 ≤ x ∧ x ≤ 9223372036854775807 then _ else _) = _
  rw [if_pos ⟨h1, h2⟩]
theorem hookOkV : HookOk eS hookV := by
  intro f args S v S' h σ w us hr hargs
  unfold hookV at h
  split at h
  · rename_i hf
    subst hf
    split at h
    · rename_i x
      split at h
      · rename_i hx
        simp only [Option.some.injEq, Prod.mk.injEq] at h
        obtain ⟨rfl, rfl⟩ := h
        obtain ⟨y, l, rfl, h1, h2⟩ := concL_cons hargs
        have h3 : some [] = some l := h2
        cases h3
        have h4 : some (Value.int .i64 x) = some y := h1
        cases h4
        refine (callsIn_wide.2 (walk_refwrap x w hx.1 hx.2)).mono fun e w' he => ?_
        obtain ⟨rfl, rfl⟩ := he
        exact ⟨_, σ, rfl, rfl, hr, Ext.refl σ _ _⟩
      · cases h
    · cases h
  · cases h

/-- selvageref01.Show: the digits of the number, wrapped -/
theorem walk_refshow (x : Int) (w : World) (h1 : -9223372036854775808 ≤ x) (h2 : x ≤ 9223372036854775807) : Calls Tryz.prog 18 #[.int .i64 x] w (ShowPost x w) := by
  obtain ⟨S', hc⟩ := am18 hookV hookV_ok 100 3 x { heap := .nil, next := 0 } (by show 0 < 60000; omega) (by omega) h1 h2
  have hargs : ∀ σ, concL σ [.lit (.int .i64 x)] = some [.int .i64 x] := fun _ => rfl
  refine (am_door0 envOkW (by kernel_rfl) hookOkV hargs hc w).mono fun e w' he => ?_
  obtain ⟨σ', u, rfl, hu, _, hb⟩ := he
  have : some (Value.string ⟨(showL (wrap63 x)).toArray⟩) = some u := hu
  cases this
  exact ⟨rfl, hb⟩
end Go.Proofs

namespace Go.Proofs
set_option linter.unusedVariables false
set_option linter.unusedSimpArgs false
open Go.RowKit Go.Lns

/-! ### the digits of a number, read again -/
def valT (l : List UInt8) : Int := l.foldl (fun (a : Int) c => 10 * a + ((c.toNat : Int) - 48)) 0
theorem valT_snoc (l : List UInt8) (c : UInt8) : valT (l ++ [c]) = 10 * valT l + ((c.toNat : Int) - 48) := by
  unfold valT; rw [List.foldl_append]; rfl
theorem valP_eq (d : ByteArray) : ∀ k, k ≤ d.size → valP d k = valT (d.data.toList.take k)
  | 0, _ => by simp [valP, valT]
  | k + 1, h => by
    have hl : d.data.toList.length = d.size := Array.length_toList
    rw [List.take_succ_eq_append_getElem (by omega), valT_snoc, ← valP_eq d k (by omega)]
    show 10 * valP d k + dv d k = _
    rw [dv_eq d k (by omega)]
    rfl
theorem valT_num (m : Nat) : valT (numL m) = m := by
  induction m using Nat.strongRecOn with
  | ind m ih =>
    have h48 : ((UInt8.ofNat (48 + m % 10)).toNat : Int) - 48 = ((m % 10 : Nat) : Int) := by
      have : (UInt8.ofNat (48 + m % 10)).toNat = 48 + m % 10 := by simp; omega
      rw [this]; omega
    by_cases h : m < 10
    · rw [numL_small h]
      show 10 * (0 : Int) + _ = _
      rw [h48]; omega
    · rw [numL_big h, valT_snoc, ih (m / 10) (by omega), h48]; omega
theorem dig_num (m : Nat) : ∀ c ∈ numL m, isDig c = true := by
  induction m using Nat.strongRecOn with
  | ind m ih =>
    have hd : isDig (UInt8.ofNat (48 + m % 10)) = true := by
      have : (UInt8.ofNat (48 + m % 10)).toNat = 48 + m % 10 := by simp; omega
      unfold isDig; rw [this]; simp; omega
    intro c hc
    by_cases h : m < 10
    · rw [numL_small h] at hc
      rw [List.mem_singleton.1 hc]; exact hd
    · rw [numL_big h] at hc
      rcases List.mem_append.1 hc with h1 | h1
      · exact ih (m / 10) (by omega) c h1
      · rw [List.mem_singleton.1 h1]; exact hd
theorem head_num (m : Nat) (h0 : 0 < m) : (numL m).head? ≠ some 48 := by
  induction m using Nat.strongRecOn with
  | ind m ih =>
    by_cases h : m < 10
    · rw [numL_small h]
      intro e
      have e1 : UInt8.ofNat (48 + m % 10) = 48 := by simpa using e
      have e2 : (UInt8.ofNat (48 + m % 10)).toNat = 48 + m % 10 := by simp; omega
      rw [e1] at e2
      have : (48 : UInt8).toNat = 48 := rfl
      omega
    · rw [numL_big h, List.head?_append]
      have hp := numL_pos (m / 10)
      cases hq : (numL (m / 10)).head? with
      | none => rw [List.head?_eq_none_iff] at hq; rw [hq] at hp; simp at hp
      | some c =>
        have := ih (m / 10) (by omega) (by omega)
        rw [hq] at this
        exact this
theorem numL_ge : ∀ (d m : Nat), 10 ^ d ≤ m → d + 1 ≤ (numL m).length
  | 0, m, _ => numL_pos m
  | d + 1, m, h => by
    have h1 : ¬ m < 10 := by
      have : 0 < 10 ^ d := Nat.pow_pos (by omega)
      rw [Nat.pow_succ] at h; omega
    rw [numL_big h1, List.length_append]
    have := numL_ge d (m / 10) (by rw [Nat.pow_succ] at h; omega)
    simp; omega

theorem dig_head (m : Nat) : (numL m).head? ≠ some 45 := by
  intro e
  have hm : (45 : UInt8) ∈ numL m := List.mem_of_mem_head? e
  have := dig_num m 45 hm
  exact absurd this (by decide)
theorem neg_show (v : Int) : negL (showL v) = decide (v < 0) := by
  unfold showL
  split
  · rename_i h; simp [negL, h]
  · rename_i h
    have := dig_head v.natAbs
    unfold negL
    rw [decide_eq_false h]
    simpa using this
theorem dig_show (v : Int) : digL (showL v) = numL v.natAbs := by
  unfold digL
  rw [neg_show]
  by_cases h : v < 0
  · rw [if_pos (by simpa using h)]; unfold showL; rw [if_pos h]; rfl
  · rw [if_neg (by simpa using h)]; unfold showL; rw [if_neg h]
theorem fmt_show (v : Int) : fmtL (showL v) = true := by
  have hp := numL_pos v.natAbs
  unfold fmtL
  rw [dig_show, neg_show]
  have h1 : (numL v.natAbs).isEmpty = false := by cases hq : numL v.natAbs with
    | nil => rw [hq] at hp; simp at hp
    | cons _ _ => rfl
  have h2 : (numL v.natAbs).all isDig = true := List.all_eq_true.2 (dig_num _)
  have h3 : ((numL v.natAbs).head? == some 48 && (decide (1 < (numL v.natAbs).length) || decide (v < 0))) = false := by
    by_cases h0 : v.natAbs = 0
    · have : v = 0 := by omega
      subst this
      have h9 : numL (Int.natAbs 0) = [48] := numL_small (by decide)
      rw [h9]; rfl
    · have := head_num v.natAbs (by omega)
      have : ((numL v.natAbs).head? == some 48) = false := by simpa using this
      rw [this]; rfl
  rw [h1, h2, h3]; rfl

def bs (l : List UInt8) : ByteArray := ⟨l.toArray⟩
theorem bs_data (l : List UInt8) : (bs l).data.toList = l := by simp [bs]
theorem bs_size (l : List UInt8) : (bs l).size = l.length := by show l.toArray.size = _; simp
def okI (x : Int) : Prop := -999999999 ≤ x ∧ x ≤ 999999999
instance (x : Int) : Decidable (okI x) := by unfold okI; infer_instance

theorem word_show (v : Int) (h : okI v) : wordO (bs (showL v)) = some v := by
  have hf : fmtB (bs (showL v)) = true := by unfold fmtB; rw [bs_data]; exact fmt_show v
  have hd : (digB (bs (showL v))).data.toList = numL v.natAbs := by rw [digB_data, bs_data, dig_show]
  have hs : (digB (bs (showL v))).size = (numL v.natAbs).length := by
    rw [← hd]; exact Array.length_toList.symm
  have hl := numL_len 8 v.natAbs (by unfold okI at h; omega)
  unfold wordO
  rw [if_pos ⟨hf, by rw [hs]; omega⟩]
  have hv : valP (digB (bs (showL v))) (digB (bs (showL v))).size = v.natAbs := by
    rw [valP_eq _ _ (Nat.le_refl _), hs, ← hd, List.take_length, hd, valT_num]
  unfold wordVal
  rw [hv]
  have hn : negB (bs (showL v)) = decide (v < 0) := by unfold negB; rw [bs_data, neg_show]
  rw [hn]
  by_cases h0 : v < 0
  · rw [if_pos (by simpa using h0)]; congr 1; omega
  · rw [if_neg (by simpa using h0)]; congr 1; omega

/-- what lines.Print asks of a number -/
theorem trim_show (v : Int) : (Lib.trimPrefix (showL v) [45]).length = (numL v.natAbs).length := by rw [trim_eq, dig_show]
theorem asks_good (x : Int) (h : okI x) : (readL (showL (wrap63 x))).1 = x ∧ (Lib.trimPrefix (showL (wrap63 x)) [45]).length ≤ 9 ∧ wrap63 x = x := by
  have hw : wrap63 x = x := by unfold okI at h; unfold wrap63; rw [if_neg (by omega), if_neg (by omega)]
  rw [hw]
  have := read_some (word_show x h)
  rw [bs_data] at this
  refine ⟨by rw [this], ?_, rfl⟩
  rw [trim_show]
  exact numL_len 8 x.natAbs (by unfold okI at h; omega)
theorem asks_bad (x : Int) (h : ¬ okI x) : (readL (showL (wrap63 x))).1 ≠ x ∨ 9 < (Lib.trimPrefix (showL (wrap63 x)) [45]).length := by
  by_cases hw : okI (wrap63 x)
  · refine .inl ?_
    have := read_some (word_show _ hw)
    rw [bs_data] at this
    rw [this]
    intro e
    have e' : wrap63 x = x := e
    rw [e'] at hw
    exact h hw
  · refine .inr ?_
    rw [trim_show]
    exact numL_ge 9 _ (by unfold okI at hw; omega)
end Go.Proofs

namespace Go.Proofs
set_option linter.unusedVariables false
set_option linter.unusedSimpArgs false
open Go.RowKit Go.Lns

/-! ### the text of a list of numbers, read again -/
def txt (xs : List Int) : List UInt8 := Lib.join (xs.map showL) [32]
theorem no_blank (v : Int) : ∀ c ∈ showL v, c ≠ 32 := by
  intro c hc e
  subst e
  unfold showL at hc
  have hd : (32 : UInt8) ∈ numL v.natAbs → False := fun h => absurd (dig_num _ 32 h) (by decide)
  split at hc
  · rcases List.mem_cons.1 hc with h | h
    · exact absurd h (by decide)
    · exact hd h
  · exact hd hc
theorem scan_word : ∀ (l pre r : List UInt8), (∀ c ∈ l, c ≠ 32) → scanR pre (l ++ r) = scanR (pre ++ l) r
  | [], pre, r, _ => by simp
  | c :: l, pre, r, h => by
    rw [List.cons_append, scanR, if_neg (h c (by simp)), scan_word l _ r (fun d hd => h d (by simp [hd]))]
    simp
theorem wordL_show (x : Int) (h : okI x) : wordL (showL x) = some x := word_show x h
theorem scan_txt : ∀ (r : List Int) (x : Int), okI x → (∀ y ∈ r, okI y) → scanR [] (showL x ++ Lib.joinTail [32] (r.map showL)) = some (x :: r)
  | [], x, hx, _ => by
    rw [scan_word _ _ _ (no_blank x)]
    show scanR ([] ++ showL x) [] = _
    rw [List.nil_append, scanR, wordL_show x hx]
  | y :: r, x, hx, hr => by
    have ih := scan_txt r y (hr y (by simp)) (fun z hz => hr z (by simp [hz]))
    have e : Lib.joinTail [32] ((y :: r).map showL) = 32 :: (showL y ++ Lib.joinTail [32] (r.map showL)) := by simp [Lib.joinTail]
    rw [scan_word _ _ _ (no_blank x), e, List.nil_append, scanR, if_pos rfl, wordL_show x hx, ih]
theorem show_ne (x : Int) : showL x ≠ [] := by
  have := numL_pos x.natAbs
  unfold showL
  split
  · simp
  · intro e; rw [e] at this; simp at this
theorem script_txt (xs : List Int) (h : ∀ y ∈ xs, okI y) : script (txt xs) = some xs := by
  cases xs with
  | nil => rfl
  | cons x r =>
    have e : txt (x :: r) = showL x ++ Lib.joinTail [32] (r.map showL) := by unfold txt; rw [List.map_cons, Lib.join_cons]
    unfold script
    rw [if_neg, e]
    · exact scan_txt r x (h x (by simp)) (fun y hy => h y (by simp [hy]))
    · rw [e]; simp [show_ne x]
theorem show_len (v : Int) (h : okI v) : (showL v).length ≤ 10 := by
  have := numL_len 8 v.natAbs (by unfold okI at h; omega)
  unfold showL; split <;> simp <;> omega
theorem txt_snoc (xs : List Int) (x : Int) : txt (xs ++ [x]) = if xs = [] then showL x else txt xs ++ 32 :: showL x := by
  cases xs with
  | nil => simp [txt, Lib.join_one]
  | cons y r =>
    rw [if_neg (by simp)]
    unfold txt
    rw [List.cons_append, List.map_cons, Lib.join_cons, List.map_cons, Lib.join_cons, List.map_append]
    simp [Lib.joinTail]
theorem tail_len : ∀ (r : List Int), (∀ y ∈ r, okI y) → (Lib.joinTail [32] (r.map showL)).length ≤ 11 * r.length
  | [], _ => by simp [Lib.joinTail]
  | y :: r, h => by
    have h1 := tail_len r (fun z hz => h z (by simp [hz]))
    have h2 := show_len y (h y (by simp))
    have e : Lib.joinTail [32] ((y :: r).map showL) = 32 :: (showL y ++ Lib.joinTail [32] (r.map showL)) := by simp [Lib.joinTail]
    rw [e]; simp; omega
theorem txt_len (xs : List Int) (h : ∀ y ∈ xs, okI y) : (txt xs).length ≤ 11 * xs.length := by
  cases xs with
  | nil => simp [txt, Lib.join_nil]
  | cons x r =>
    have h1 := tail_len r (fun z hz => h z (by simp [hz]))
    have h2 := show_len x (h x (by simp))
    unfold txt
    rw [List.map_cons, Lib.join_cons, List.length_append]
    simp; omega
end Go.Proofs
