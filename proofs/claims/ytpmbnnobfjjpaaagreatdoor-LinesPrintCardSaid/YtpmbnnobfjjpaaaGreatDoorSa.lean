/- A part of the proof that selvagelaw22.LinesScript answers true at every text. -/
import Derived.Test.YtpmbnnobfjjpaaaGreatDoorAmWalk
import Derived.Test.YtpmbnnobfjjpaaaGreatDoorPl
import Derived.KernelRfl
namespace Go.Proofs
set_option linter.unusedVariables false
set_option linter.unusedSimpArgs false
open Go.AM

noncomputable def eS : Env := { P := Tryz.prog, ext := fun _ => none }
theorem eS_P : eS.P = Tryz.prog := rfl

def orE {α : Type} (x : Option α) (y : Unit → Option α) : Option α := match x with | some a => some a | none => y ()
theorem orE_congr {α : Type} {x x' : Option α} (y : Unit → Option α) (h : x = x') : orE x y = orE x' y := by rw [h]
theorem orE_some {α : Type} (a : α) (y : Unit → Option α) : orE (some a) y = some a := rfl
theorem orE_none {α : Type} (y : Unit → Option α) : orE none y = y () := rfl
def rfOf : Code → Option (Code × Code)
  | .rangeFunc _ _ a b => some (a, b)
  | .seq a b => orE (rfOf a) (fun _ => rfOf b)
  | .block _ b => rfOf b
  | .loop b => rfOf b
  | .scope b => rfOf b
  | _ => none
def rfA (c : Option Code) : Code := match c with | some c => (match rfOf c with | some (a, _) => a | none => .skip) | none => .skip
def rfB (c : Option Code) : Code := match c with | some c => (match rfOf c with | some (_, b) => b | none => .skip) | none => .skip

theorem zT9 : zeroT Tryz.prog 9 = some (.lit (.string .empty)) := by kernel_rfl
theorem zT22 : zeroT Tryz.prog 22 = some (.lit (.slice none 0 0)) := by kernel_rfl
theorem zT23 : zeroT Tryz.prog 23 = some (.lit (.int .i64 0)) := by kernel_rfl
theorem sT22 : sizeT Tryz.prog 22 = some 1 := by kernel_rfl
theorem sT23 : sizeT Tryz.prog 23 = some 1 := by kernel_rfl
theorem sT9 : sizeT Tryz.prog 9 = some 1 := by kernel_rfl
theorem sT3 : sizeT Tryz.prog 3 = some 1 := by kernel_rfl
theorem zT3 : zeroT Tryz.prog 3 = some (.lit (.int .i64 0)) := by kernel_rfl
theorem gT22 : isAggT Tryz.prog 22 = some false := by kernel_rfl
theorem gT23 : isAggT Tryz.prog 23 = some false := by kernel_rfl
theorem gT9 : isAggT Tryz.prog 9 = some false := by kernel_rfl

/-- what the hook tells -/
structure HookS (hook : Hook) (mx : AObj) : Prop where
  h5 : ∀ a S, hook 5 a S = none
  h11 : ∀ a S, hook 11 a S = none
  h19 : ∀ a S, hook 19 a S = none
  h12 : ∀ (w : ByteArray) S, w.size ≤ 400 → hook 12 [.lit (.string w)] S = some (some (.lit (.tuple #[.int .i64 (readL w.data.toList).1, .int .i64 (readL w.data.toList).2]), S))
  h13 : ∀ (w p : ByteArray) S, hook 13 [.lit (.string w), .lit (.string p)] S = some (some (.lit (.string ⟨(Lib.trimPrefix w.data.toList p.data.toList).toArray⟩), S))
  h20 : ∀ (s p : ByteArray) S, s.size ≤ 400 → S.get 0 = some mx → hook 20 [.lit (.string s), .lit (.string p)] S =
    some (some (.lit (.tuple #[.string ⟨(Lib.cut s.data.toList p.data.toList).1.toArray⟩, .string ⟨(Lib.cut s.data.toList p.data.toList).2.1.toArray⟩, .bool (Lib.cut s.data.toList p.data.toList).2.2]), S))

theorem neq_i64 (P : Program) (t : TypeId) (ox oy : Operand) (a b : Int) : aBinOp P .neq t ox oy (.lit (.int .i64 a)) (.lit (.int .i64 b)) = some (.lit (.bool (a != b))) := rfl
theorem gtr_i64 (P : Program) (t : TypeId) (ox oy : Operand) (a b : Int) : aBinOp P .gtr t ox oy (.lit (.int .i64 a)) (.lit (.int .i64 b)) = some (.lit (.bool (decide (a > b)))) := rfl
theorem eql_strs (P : Program) (t : TypeId) (ox oy : Operand) (a b : ByteArray) : aBinOp P .eql t ox oy (.lit (.string a)) (.lit (.string b)) = some (.lit (.bool (a.toList == b.toList))) := rfl
theorem len_str (S : AState) (ty : TypeId) (s : ByteArray) : aBuiltin eS S .len #[9] ty [.lit (.string s)] = some (.val (.lit (.int .i64 s.size)), S) := by
  show obind (pureRun eS.P (Builtin.len_ #[9] ty #[.string s])) (fun u => ret S (.lit u)) = _
  have : pureRun eS.P (Builtin.len_ #[9] ty #[.string s]) = some (.int .i64 s.size) := by kernel_rfl
  rw [this]; rfl
theorem ext_lit (vs : Array Value) (i : Nat) (S : AState) (v : Value) (h : vs[i]? = some v) : extK (.lit (.tuple vs)) i S = some (.val (.lit v), S) := by
  rw [extK_lit, h]; rfl
theorem store_cell (P : Program) (S : AState) (t : TypeId) (id : Nat) (v c : AV) (n el : Nat) (ex : Bool) (hs : sizeT P t = some 1) (hg : S.get id = some (.row [c] n el ex)) (h1 : v.cells = [v]) (h2 : v.one = true) :
    aStore P S t (.ptr id 0) v = some (S.put id (.row [v] n el ex)) := by
  unfold aStore
  simp only [hg, hs, obind_val, h1, List.length_cons, List.length_nil, Nat.zero_add, allOne, h2, Bool.and_self, Bool.and_true]
  rfl
theorem load_cell (P : Program) (S : AState) (t : TypeId) (id : Nat) (c : AV) (n el : Nat) (ex : Bool) (hs : isAggT P t = some false) (hg : S.get id = some (.row [c] n el ex)) : aLoad P S t (.ptr id 0) = some c := by
  unfold aLoad
  simp only [hg, hs]
  rfl
theorem call12 (S : AState) (args : List AV) : aCallY eS S (.lit (.func (.func 12) #[] #[])) args = some (.enter 12 args, S) := calY_lit S 12 args Tryz.f12 _ Tryz.func12 rfl
theorem call13 (S : AState) (args : List AV) : aCallY eS S (.lit (.func (.func 13) #[] #[])) args = some (.enter 13 args, S) := calY_lit S 13 args Tryz.f13 _ Tryz.func13 rfl
theorem call20 (S : AState) (args : List AV) : aCallY eS S (.lit (.func (.func 20) #[] #[])) args = some (.enter 20 args, S) := calY_lit S 20 args Tryz.f20 _ Tryz.func20 rfl
theorem call11 (S : AState) (args : List AV) : aCallY eS S (.lit (.func (.func 11) #[] #[])) args = some (.enter 11 args, S) := calY_lit S 11 args Tryz.f11 _ Tryz.func11 rfl

theorem info3 : (Tryz.prog.info? 3).map (fun i => (i.zero, i.size, i.bytes)) = some (some (.int .i64 0), 1, 8) := by kernel_rfl
theorem allOne_append : ∀ {a b : List AV}, allOne a = true → allOne b = true → allOne (a ++ b) = true
  | [], _, _, h => h
  | x :: a, b, h, k => by
    simp only [allOne, Bool.and_eq_true] at h
    simp only [List.cons_append, allOne, Bool.and_eq_true]
    exact ⟨h.1, allOne_append h.2 k⟩
theorem build22 (S : AState) (a : Int) (h : S.next < 65536) : aBuildSlice Tryz.prog S 22 1 [(0, .lit (.int .i64 a))] = some (.val (.slice S.next 0 1 (some 1)), (S.put S.next (.row [.lit (.int .i64 a)] 1 3 true)).bump) := by
  unfold aBuildSlice
  simp only [Tryz.underlying22, sT3, zT3, obind_val]
  rw [if_neg (by decide), if_neg (by decide)]
  show obind (aFill (fun i => some (i * 1, 1)) [.lit (.int .i64 0)] [(0, .lit (.int .i64 a))]) _ = _
  have e : aFill (fun i => some (i * 1, 1)) [.lit (.int .i64 0)] [(0, .lit (.int .i64 a))] = some [.lit (.int .i64 a)] := rfl
  rw [e]
  show obind (aNewRow S [.lit (.int .i64 a)] 1 3 true) _ = _
  show obind (S.new (.row [.lit (.int .i64 a)] 1 3 true)) _ = _
  rw [new_eq _ _ h]
  rfl
theorem app_small {ei : TypeInfo} (hz : ei.zero = some (.int .i64 0)) (hs : ei.size = 1) (hb : ei.bytes = 8) (l : Nat) (hl : l ≤ 1000000) : appSmall ei 1 (some l) = true := by
  unfold appSmall
  rw [hz, hs, hb]
  simp [hl, Value.cells]
theorem append_eq (S : AState) (a b ty : TypeId) (s x : AV) : aBuiltin eS S .append #[a, b] ty [s, x] = aAppend Tryz.prog S #[a, b] s x := by
  have h : ((#[a, b] : Array TypeId).size == 2) = true := rfl
  unfold aBuiltin
  simp only [h, ↓reduceIte, eS_P]
theorem app_nil (S : AState) (ty : TypeId) (id : Nat) (a : Int) (ex : Bool) (hg : S.get id = some (.row [.lit (.int .i64 a)] 1 3 ex)) (h : S.next < 65536) :
    aBuiltin eS S .append #[22, 22] ty [.lit (.slice none 0 0), .slice id 0 1 (some 1)] = some (.val (.slice S.next 0 1 none), (S.put S.next (.row [.lit (.int .i64 a)] 1 3 false)).bump) := by
  obtain ⟨ei, hi, hz, hs, hb⟩ := info_parts info3
  rw [append_eq]
  unfold aAppend
  have g0 : (#[22, 22] : Array TypeId)[0]? = some 22 := rfl
  have g1 : (#[22, 22] : Array TypeId)[1]? = some 22 := rfl
  simp only [g0, g1, Tryz.underlying22, hi, obind_val, lenOf]
  rw [if_pos (app_small hz hs hb 0 (by omega))]
  have hc : aCells S ei.size (.slice id 0 1 (some 1)) = some [.lit (.int .i64 a)] := by
    unfold aCells
    rw [hs]
    simp [hg]
  simp only [hc, obind_val]
  show (if (1 == 0) = true then _ else obind (aNewRow S [.lit (.int .i64 a)] ei.size 3 false) _) = _
  rw [if_neg (by decide), hs]
  show obind (S.new (.row [.lit (.int .i64 a)] 1 3 false)) _ = _
  rw [new_eq _ _ h]
  rfl
theorem app_row (S : AState) (ty : TypeId) (r id len : Nat) (cs : List AV) (a : Int) (ex ex' : Bool) (hg : S.get id = some (.row [.lit (.int .i64 a)] 1 3 ex)) (hr : S.get r = some (.row cs 1 3 ex')) (hl : cs.length = len) (h0 : 0 < len) (hm : len ≤ 1000000) (h1 : allOne cs = true) (h : S.next < 65536) :
    aBuiltin eS S .append #[22, 22] ty [.slice r 0 len none, .slice id 0 1 (some 1)] = some (.val (.slice S.next 0 (len + 1) none), ((S.kill r).put S.next (.row (cs ++ [.lit (.int .i64 a)]) 1 3 false)).bump) := by
  obtain ⟨ei, hi, hz, hs, hb⟩ := info_parts info3
  rw [append_eq]
  unfold aAppend
  have g0 : (#[22, 22] : Array TypeId)[0]? = some 22 := rfl
  have g1 : (#[22, 22] : Array TypeId)[1]? = some 22 := rfl
  simp only [g0, g1, Tryz.underlying22, hi, obind_val, lenOf]
  rw [if_pos (app_small hz hs hb len hm)]
  have hc : aCells S ei.size (.slice id 0 1 (some 1)) = some [.lit (.int .i64 a)] := by
    unfold aCells
    rw [hs]
    simp [hg]
  have hc2 : aCells S ei.size (.slice r 0 len none) = some cs := by
    unfold aCells
    rw [hs]
    have : (len == 0) = false := by simp; omega
    simp [hr, this, hl]
    subst hl
    exact List.take_length
  simp only [hc, hc2, obind_val, hr]
  rw [if_neg (by decide), hs, if_pos (by simp)]
  have : aNewRow (S.kill r) (cs ++ [.lit (.int .i64 a)]) 1 3 false = (S.kill r).new (.row (cs ++ [.lit (.int .i64 a)]) 1 3 false) := by
    unfold aNewRow; rw [if_pos (allOne_append h1 rfl)]
  rw [this, new_eq (S.kill r) _ h]
  rfl

attribute [local congr] orE_congr
set_option linter.unusedSimpArgs false
set_option maxRecDepth 20000 in
/-- a round where the word is none: it is no integer -/
theorem body_bad1 (hook : Hook) (mx : AObj) (hk : HookS hook mx) (fuel n L T2 T3 T4 : Nat) (tm : T AV) (w : ByteArray) (S : AState) (hw : w.size ≤ 400) (hr : ((readL w.data.toList).2 != 0) = true)
    (h2l : T2 < 65536) (_h3l : T3 < 65536) (h23 : (T3 = T2) = False)
    (ht2 : tget tm 31 2 = .ptr T2 0) (ht3 : tget tm 31 3 = .ptr T3 0) (ht4 : tget tm 31 4 = .ptr T4 0) (ht5 : tget tm 31 5 = .lit (.string w)) {v2 v3 : AV} (hg2 : S.get T2 = some (.row [v2] 1 22 true)) (hg3 : S.get T3 = some (.row [v3] 1 23 true)) :
    ∃ fr2, acode eS { arecs eS hook fuel (n + 1) with plain := false } (some L) fuel (rfB Tryz.f5.body) ⟨tm, 31, []⟩ S = some (.ret, fr2, (S.put T2 (.row [.lit (.slice none 0 0)] 1 22 true)).put T3 (.row [.lit (.int .i64 40)] 1 23 true)) := by
  have c12 : ∀ S, (arecs eS hook fuel (n + 1)).call 12 [.lit (.string w)] S = some (.lit (.tuple #[.int .i64 (readL w.data.toList).1, .int .i64 (readL w.data.toList).2]), S) := fun S => call_hook (hk.h12 w S hw)
  have e0 : ∀ S, extK (.lit (.tuple #[.int .i64 (readL w.data.toList).1, .int .i64 (readL w.data.toList).2])) 0 S = some (.val (.lit (.int .i64 (readL w.data.toList).1)), S) := fun _ => rfl
  have e1 : ∀ S, extK (.lit (.tuple #[.int .i64 (readL w.data.toList).1, .int .i64 (readL w.data.toList).2])) 1 S = some (.val (.lit (.int .i64 (readL w.data.toList).2)), S) := fun _ => rfl
  have s2 : aStore Tryz.prog S 22 (.ptr T2 0) (.lit (.slice none 0 0)) = some (S.put T2 (.row [.lit (.slice none 0 0)] 1 22 true)) := store_cell _ _ _ _ _ _ _ _ _ sT22 hg2 rfl rfl
  have s3 : aStore Tryz.prog (S.put T2 (.row [.lit (.slice none 0 0)] 1 22 true)) 23 (.ptr T3 0) (.lit (.int .i64 40)) = some ((S.put T2 (.row [.lit (.slice none 0 0)] 1 22 true)).put T3 (.row [.lit (.int .i64 40)] 1 23 true)) :=
    store_cell _ _ _ _ _ _ _ _ _ sT23 (by rw [get_put _ _ _ _ h2l, if_neg (by simp [h23])]; exact hg3) rfl rfl
  simp only [rfB, Tryz.f5, rfOf, orE_some, orE_none]
  simp (disch := omega) only [code_seq, code_region, code_cond, code_block, code_skip, code_ret, code_exit, codeK_eq, seqK_normal, seqK_ret, seqK_exit, blockK_normal, blockK_ret, blockK_exit, condK_true, condK_false, regK_eq, putK_eq, oper_eq, operK_val, operK_enter, operK_round, opsK_eq, ops_cons, ops_nil, wantK_true, wantK_false, wanted_0, wanted_g, guardK_some, isB_bool, ↓reduceIte, obind_val, aop_move, aop_assign, aop_store, aop_load, aop_alloc, aop_box, aop_makeFunc, aop_binOp, aop_callv, aop_callb, aop_pick, aop_extract, aop_buildSlice, aop_unOp, pickK_true, pickK_false, extK_lit, extK_tup, unK_not, val_some, unit_some, eval_tmp, eval_const, eval_func, get_mk, put_mk, put_none, tget_tput, get_put, get_bump, next_bump, next_put, next_kill, Nat.reduceEqDiff, ret_eq, evalList, evalParts, eS_P, List.getElem?_cons, Nat.reduceSub, Bool.false_eq_true, beq_self_eq_true, Bool.not_true, Bool.not_false, b_tf, b_ft, b_tt, b_ff, ht5, call12, c12, e0, e1, neq_i64, gtr_i64, hr, s2, s3, ht2, ht3]
  exact ⟨_, rfl⟩

set_option maxRecDepth 20000 in
/-- a round where the word is none: it is too long -/
theorem body_bad2 (hook : Hook) (mx : AObj) (hk : HookS hook mx) (fuel n L T2 T3 T4 : Nat) (tm : T AV) (w : ByteArray) (S : AState) (hw : w.size ≤ 400) (hr : ((readL w.data.toList).2 != 0) = false) (ht : decide ((((⟨(Lib.trimPrefix w.data.toList [45]).toArray⟩ : ByteArray).size : Nat) : Int) > 9) = true)
    (h2l : T2 < 65536) (_h3l : T3 < 65536) (h23 : (T3 = T2) = False)
    (ht2 : tget tm 31 2 = .ptr T2 0) (ht3 : tget tm 31 3 = .ptr T3 0) (ht4 : tget tm 31 4 = .ptr T4 0) (ht5 : tget tm 31 5 = .lit (.string w)) {v2 v3 : AV} (hg2 : S.get T2 = some (.row [v2] 1 22 true)) (hg3 : S.get T3 = some (.row [v3] 1 23 true)) :
    ∃ fr2, acode eS { arecs eS hook fuel (n + 1) with plain := false } (some L) fuel (rfB Tryz.f5.body) ⟨tm, 31, []⟩ S = some (.ret, fr2, (S.put T2 (.row [.lit (.slice none 0 0)] 1 22 true)).put T3 (.row [.lit (.int .i64 40)] 1 23 true)) := by
  have c12 : ∀ S, (arecs eS hook fuel (n + 1)).call 12 [.lit (.string w)] S = some (.lit (.tuple #[.int .i64 (readL w.data.toList).1, .int .i64 (readL w.data.toList).2]), S) := fun S => call_hook (hk.h12 w S hw)
  have c13 : ∀ S, (arecs eS hook fuel (n + 1)).call 13 [.lit (.string w), .lit (.string { data := #[45] })] S = some (.lit (.string ⟨(Lib.trimPrefix w.data.toList [45]).toArray⟩), S) := fun S => call_hook (hk.h13 w ⟨#[45]⟩ S)
  have e0 : ∀ S, extK (.lit (.tuple #[.int .i64 (readL w.data.toList).1, .int .i64 (readL w.data.toList).2])) 0 S = some (.val (.lit (.int .i64 (readL w.data.toList).1)), S) := fun _ => rfl
  have e1 : ∀ S, extK (.lit (.tuple #[.int .i64 (readL w.data.toList).1, .int .i64 (readL w.data.toList).2])) 1 S = some (.val (.lit (.int .i64 (readL w.data.toList).2)), S) := fun _ => rfl
  have s2 : aStore Tryz.prog S 22 (.ptr T2 0) (.lit (.slice none 0 0)) = some (S.put T2 (.row [.lit (.slice none 0 0)] 1 22 true)) := store_cell _ _ _ _ _ _ _ _ _ sT22 hg2 rfl rfl
  have s3 : aStore Tryz.prog (S.put T2 (.row [.lit (.slice none 0 0)] 1 22 true)) 23 (.ptr T3 0) (.lit (.int .i64 40)) = some ((S.put T2 (.row [.lit (.slice none 0 0)] 1 22 true)).put T3 (.row [.lit (.int .i64 40)] 1 23 true)) :=
    store_cell _ _ _ _ _ _ _ _ _ sT23 (by rw [get_put _ _ _ _ h2l, if_neg (by simp [h23])]; exact hg3) rfl rfl
  simp only [rfB, Tryz.f5, rfOf, orE_some, orE_none]
  simp (disch := omega) only [code_seq, code_region, code_cond, code_block, code_skip, code_ret, code_exit, codeK_eq, seqK_normal, seqK_ret, seqK_exit, blockK_normal, blockK_ret, blockK_exit, condK_true, condK_false, regK_eq, putK_eq, oper_eq, operK_val, operK_enter, operK_round, opsK_eq, ops_cons, ops_nil, wantK_true, wantK_false, wanted_0, wanted_g, guardK_some, isB_bool, ↓reduceIte, obind_val, aop_move, aop_assign, aop_store, aop_load, aop_alloc, aop_box, aop_makeFunc, aop_binOp, aop_callv, aop_callb, aop_pick, aop_extract, aop_buildSlice, aop_unOp, pickK_true, pickK_false, extK_lit, extK_tup, unK_not, val_some, unit_some, eval_tmp, eval_const, eval_func, get_mk, put_mk, put_none, tget_tput, get_put, get_bump, next_bump, next_put, next_kill, Nat.reduceEqDiff, ret_eq, evalList, evalParts, eS_P, List.getElem?_cons, Nat.reduceSub, Bool.false_eq_true, beq_self_eq_true, Bool.not_true, Bool.not_false, b_tf, b_ft, b_tt, b_ff, ht5, call12, c12, call13, c13, e0, e1, neq_i64, gtr_i64, len_str, ht, hr, s2, s3, ht2, ht3]
  exact ⟨_, rfl⟩

/-- what a round that takes its word leaves -/
noncomputable def took (S : AState) (T4 : Nat) (v : AV) (xs : List Int) (x : Int) : AState :=
  match v with
  | .slice r _ _ _ => ((((S.put S.next (.row [.lit (.int .i64 x)] 1 3 true)).bump.kill r).put (S.next + 1) (.row (xs.map (fun z => .lit (.int .i64 z)) ++ [.lit (.int .i64 x)]) 1 3 false)).bump).put T4 (.row [.slice (S.next + 1) 0 (xs.length + 1) none] 1 22 true)
  | _ => (((S.put S.next (.row [.lit (.int .i64 x)] 1 3 true)).bump.put (S.next + 1) (.row [.lit (.int .i64 x)] 1 3 false)).bump).put T4 (.row [.slice (S.next + 1) 0 1 none] 1 22 true)

def litI (z : Int) : AV := .lit (.int .i64 z)
/-- the slice in hand holds the numbers -/
def OwnA (S : AState) (v : AV) (xs : List Int) : Prop :=
  (v = .lit (.slice none 0 0) ∧ xs = []) ∨ (∃ r, v = .slice r 0 xs.length none ∧ 0 < xs.length ∧ S.get r = some (.row (xs.map litI) 1 3 false) ∧ r < S.next)

theorem allOne_lits : ∀ xs : List Int, allOne (xs.map litI) = true
  | [] => rfl
  | _ :: r => by simp only [List.map_cons, allOne, allOne_lits r]; rfl

set_option maxRecDepth 20000 in
/-- a round that takes its word -/
theorem body_good (hook : Hook) (mx : AObj) (hk : HookS hook mx) (fuel n L T2 T3 T4 : Nat) (tm : T AV) (w : ByteArray) (S : AState) (hw : w.size ≤ 400) (hr : ((readL w.data.toList).2 != 0) = false) (ht : decide ((((⟨(Lib.trimPrefix w.data.toList [45]).toArray⟩ : ByteArray).size : Nat) : Int) > 9) = false)
    (hn : S.next + 2 < 65536) (h4l : T4 < S.next)
    (ht4 : tget tm 31 4 = .ptr T4 0) (ht5 : tget tm 31 5 = .lit (.string w)) {v : AV} {xs : List Int} (hxl : xs.length ≤ 1000) (hg4 : S.get T4 = some (.row [v] 1 22 true)) (hv : OwnA S v xs) (hr4 : ∀ r, v = .slice r 0 xs.length none → r ≠ T4) :
    ∃ fr2, acode eS { arecs eS hook fuel (n + 1) with plain := false } (some L) fuel (rfB Tryz.f5.body) ⟨tm, 31, []⟩ S = some (.normal, fr2, took S T4 v xs (readL w.data.toList).1) := by
  have c12 : ∀ S, (arecs eS hook fuel (n + 1)).call 12 [.lit (.string w)] S = some (.lit (.tuple #[.int .i64 (readL w.data.toList).1, .int .i64 (readL w.data.toList).2]), S) := fun S => call_hook (hk.h12 w S hw)
  have c13 : ∀ S, (arecs eS hook fuel (n + 1)).call 13 [.lit (.string w), .lit (.string { data := #[45] })] S = some (.lit (.string ⟨(Lib.trimPrefix w.data.toList [45]).toArray⟩), S) := fun S => call_hook (hk.h13 w ⟨#[45]⟩ S)
  have e0 : ∀ S, extK (.lit (.tuple #[.int .i64 (readL w.data.toList).1, .int .i64 (readL w.data.toList).2])) 0 S = some (.val (.lit (.int .i64 (readL w.data.toList).1)), S) := fun _ => rfl
  have e1 : ∀ S, extK (.lit (.tuple #[.int .i64 (readL w.data.toList).1, .int .i64 (readL w.data.toList).2])) 1 S = some (.val (.lit (.int .i64 (readL w.data.toList).2)), S) := fun _ => rfl
  have l4 : aLoad Tryz.prog S 22 (.ptr T4 0) = some v := load_cell _ _ _ _ _ _ _ _ gT22 hg4
  have b4 := build22 S (readL w.data.toList).1 (by omega)
  simp only [rfB, Tryz.f5, rfOf, orE_some, orE_none]
  rcases hv with ⟨rfl, rfl⟩ | ⟨r, rfl, h0, hgr, hrl⟩
  · have a4 : ∀ ty, aBuiltin eS ((S.put S.next (.row [.lit (.int .i64 (readL w.data.toList).1)] 1 3 true)).bump) .append #[22, 22] ty [.lit (.slice none 0 0), .slice S.next 0 1 (some 1)] = _ := fun ty =>
      app_nil _ ty S.next _ true (by rw [get_bump, get_put _ _ _ _ (by omega), if_pos rfl]) (by rw [next_bump, next_put]; omega)
    have s4 : aStore Tryz.prog (((S.put S.next (.row [.lit (.int .i64 (readL w.data.toList).1)] 1 3 true)).bump.put (S.next + 1) (.row [.lit (.int .i64 (readL w.data.toList).1)] 1 3 false)).bump) 22 (.ptr T4 0) (.slice (S.next + 1) 0 1 none) = some _ :=
      store_cell _ _ _ _ _ _ _ _ _ sT22 (by rw [get_bump, get_put _ _ _ _ (by omega), if_neg (by omega), get_bump, get_put _ _ _ _ (by omega), if_neg (by omega)]; exact hg4) rfl rfl
    simp (disch := omega) only [code_seq, code_region, code_cond, code_block, code_skip, code_ret, code_exit, codeK_eq, seqK_normal, seqK_ret, seqK_exit, blockK_normal, blockK_ret, blockK_exit, condK_true, condK_false, regK_eq, putK_eq, oper_eq, operK_val, operK_enter, operK_round, opsK_eq, ops_cons, ops_nil, wantK_true, wantK_false, wanted_0, wanted_g, guardK_some, isB_bool, ↓reduceIte, obind_val, aop_move, aop_assign, aop_store, aop_load, aop_alloc, aop_box, aop_makeFunc, aop_binOp, aop_callv, aop_callb, aop_pick, aop_extract, aop_buildSlice, aop_unOp, pickK_true, pickK_false, extK_lit, extK_tup, unK_not, val_some, unit_some, eval_tmp, eval_const, eval_func, get_mk, put_mk, put_none, tget_tput, get_put, get_bump, next_bump, next_put, next_kill, Nat.reduceEqDiff, ret_eq, evalList, evalParts, eS_P, List.getElem?_cons, Nat.reduceSub, Bool.false_eq_true, beq_self_eq_true, Bool.not_true, Bool.not_false, b_tf, b_ft, b_tt, b_ff, ht5, call12, c12, call13, c13, e0, e1, neq_i64, gtr_i64, len_str, ht, hr, ht4, l4, b4, a4, s4]
    exact ⟨_, rfl⟩
  · have hne : r ≠ T4 := hr4 r rfl
    have a4 : ∀ ty, aBuiltin eS ((S.put S.next (.row [.lit (.int .i64 (readL w.data.toList).1)] 1 3 true)).bump) .append #[22, 22] ty [.slice r 0 xs.length none, .slice S.next 0 1 (some 1)] = _ := fun ty =>
      app_row _ ty r S.next xs.length (xs.map litI) _ true false (by rw [get_bump, get_put _ _ _ _ (by omega), if_pos rfl]) (by rw [get_bump, get_put _ _ _ _ (by omega), if_neg (by omega)]; exact hgr) (by simp) h0 (by omega) (allOne_lits xs) (by rw [next_bump, next_put]; omega)
    have s4 : aStore Tryz.prog ((((S.put S.next (.row [.lit (.int .i64 (readL w.data.toList).1)] 1 3 true)).bump.kill r).put (S.next + 1) (.row (xs.map litI ++ [.lit (.int .i64 (readL w.data.toList).1)]) 1 3 false)).bump) 22 (.ptr T4 0) (.slice (S.next + 1) 0 (xs.length + 1) none) = some _ :=
      store_cell _ _ _ _ _ _ _ _ _ sT22 (by rw [get_bump, get_put _ _ _ _ (by omega), if_neg (by omega), get_kill _ _ _ (by omega), if_neg (by omega), get_bump, get_put _ _ _ _ (by omega), if_neg (by omega)]; exact hg4) rfl rfl
    simp (disch := omega) only [code_seq, code_region, code_cond, code_block, code_skip, code_ret, code_exit, codeK_eq, seqK_normal, seqK_ret, seqK_exit, blockK_normal, blockK_ret, blockK_exit, condK_true, condK_false, regK_eq, putK_eq, oper_eq, operK_val, operK_enter, operK_round, opsK_eq, ops_cons, ops_nil, wantK_true, wantK_false, wanted_0, wanted_g, guardK_some, isB_bool, ↓reduceIte, obind_val, aop_move, aop_assign, aop_store, aop_load, aop_alloc, aop_box, aop_makeFunc, aop_binOp, aop_callv, aop_callb, aop_pick, aop_extract, aop_buildSlice, aop_unOp, pickK_true, pickK_false, extK_lit, extK_tup, unK_not, val_some, unit_some, eval_tmp, eval_const, eval_func, get_mk, put_mk, put_none, tget_tput, get_put, get_bump, next_bump, next_put, next_kill, Nat.reduceEqDiff, ret_eq, evalList, evalParts, eS_P, List.getElem?_cons, Nat.reduceSub, Bool.false_eq_true, beq_self_eq_true, Bool.not_true, Bool.not_false, b_tf, b_ft, b_tt, b_ff, ht5, call12, c12, call13, c13, e0, e1, neq_i64, gtr_i64, len_str, ht, hr, ht4, l4, b4, a4, s4]
    exact ⟨_, rfl⟩
end Go.Proofs
