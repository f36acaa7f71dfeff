/- The abstract machine, walked by hand: plain equations of its parts. -/
import Derived.Test.YtpmbnnobfjjpaaaGreatDoorAmTop
namespace Go.AM
set_option linter.unusedVariables false
set_option linter.unusedSimpArgs false
noncomputable section

/-- one number more -/
def AState.bump (S : AState) : AState := { S with next := S.next + 1 }
theorem new_eq (S : AState) (o : AObj) (h : S.next < 65536) : S.new o = some (S.next, (S.put S.next o).bump) := by
  unfold AState.new; rw [if_pos h]; rfl
theorem get_bump (S : AState) (j : Nat) : S.bump.get j = S.get j := rfl
theorem next_bump (S : AState) : S.bump.next = S.next + 1 := rfl
theorem next_put (S : AState) (j : Nat) (o : AObj) : (S.put j o).next = S.next := rfl
theorem next_kill (S : AState) (j : Nat) : (S.kill j).next = S.next := rfl
theorem get_put (S : AState) (id j : Nat) (o : AObj) (h : id < 65536) : (S.put id o).get j = if j = id then some o else S.get j := AState.get_put S id j o h
theorem get_kill (S : AState) (id j : Nat) (h : id < 65536) : (S.kill id).get j = if j = id then none else S.get j := AState.get_kill S id j h

/-- a table of temporaries: read, written -/
def tget (t : T AV) (n k : Nat) : AV := if k < n then (match T.get FD t k with | some v => v | none => undefA) else undefA
def tput (t : T AV) (d : Nat) (v : AV) : T AV := T.put FD t d (.leaf v)
theorem get_mk (t : T AV) (n : Nat) (ds : List ADef) (k : Nat) : AFr.get ⟨t, n, ds⟩ k = tget t n k := rfl
theorem put_mk (t : T AV) (n : Nat) (ds : List ADef) (d : Nat) (v : AV) (h : d < n) : AFr.put ⟨t, n, ds⟩ (some d) v = ⟨tput t d v, n, ds⟩ := by
  show (if d < n then _ else _) = _
  rw [if_pos h]; rfl
theorem put_none (f : AFr) (v : AV) : AFr.put f none v = f := rfl
theorem tget_tput (t : T AV) (n d k : Nat) (v : AV) (hn : n ≤ 512) (hd : d < n) : tget (tput t d v) n k = if k = d then v else tget t n k := by
  have h := AFr.get_put ⟨t, n, []⟩ d k v hn
  rw [put_mk t n [] d v hd] at h
  rw [get_mk, get_mk] at h
  rw [h]
  by_cases e : k = d
  · simp [e, hd]
  · simp [e]
theorem putArgs_nil (i : Nat) (t : T AV) : putArgs i [] t = t := rfl
theorem putArgs_cons (i : Nat) (v : AV) (vs : List AV) (t : T AV) : putArgs i (v :: vs) t = putArgs (i + 1) vs (tput t i v) := rfl
theorem putParams_cons (p : Nat) (ps : List Nat) (v : AV) (vs : List AV) (n : Nat) (t : T AV) (h : p < n) : putParams (p :: ps) (v :: vs) n t = putParams ps vs n (tput t p v) := by
  show putParams ps vs n (if p < n then _ else _) = _
  rw [if_pos h]; rfl
theorem putParams_nil (n : Nat) (t : T AV) (vs : List AV) : putParams [] vs n t = t := by cases vs <;> rfl

theorem callF_eq {E : Env} {hook : Hook} {fuel n : Nat} {f : FuncId} {args : List AV} {S S' S'' : AState} {fn : Func} {c : Code} {fr : AFr} {vs : List AV} (hh : hook f args S = none) (hf : E.P.funcs[f]? = some fn) (hc : fn.body = some c)
    (hb : abody E fuel (arecs E hook fuel n) fn c args S = some (fr, S')) (hd : adefers E (arecs E hook fuel n) fr.defers S' = some S'') (hr : aresults E fr S'' fn.results.toList = some vs) :
    (arecs E hook fuel (n + 1)).call f args S = some (pack vs, S'') := by
  show acallF E hook fuel (arecs E hook fuel n) f args S = _
  unfold acallF
  rw [hh]; simp only [hf, hc, hb, hd, hr, obind]

theorem body_eq {E : Env} {fuel : Nat} {R : Recs} {fn : Func} {c : Code} {args : List AV} {S S' : AState} {n : Nat} {e : AExit} {fr : AFr} (hn : max fn.ntmps args.length = n) (h5 : n ≤ 512)
    (h : acode E R none fuel c ⟨putArgs 0 args .nil, n, []⟩ S = some (e, fr, S')) (he : e = .normal ∨ e = .ret) : abody E fuel R fn c args S = some (fr, S') := by
  unfold abody
  rw [hn, if_pos h5]
  show (match acode E R none fuel c ⟨putArgs 0 args .nil, n, []⟩ S with | some (.normal, fr, S') => some (fr, S') | some (.ret, fr, S') => some (fr, S') | _ => none) = _
  rw [h]
  rcases he with rfl | rfl <;> rfl

/-- a hooked call -/
theorem call_hook {E : Env} {hook : Hook} {fuel n : Nat} {f : FuncId} {args : List AV} {S : AState} {r : Option (AV × AState)} (hh : hook f args S = some r) : (arecs E hook fuel (n + 1)).call f args S = r := by
  show acallF E hook fuel (arecs E hook fuel n) f args S = _
  unfold acallF
  rw [hh]
theorem round_eq {E : Env} {hook : Hook} {fuel n : Nat} (l : Nat) (args : List AV) (S : AState) : (arecs E hook fuel (n + 1)).round l args S = aroundF E fuel (arecs E hook fuel n) l args S := rfl
theorem plain_eq {E : Env} {hook : Hook} {fuel n : Nat} : (arecs E hook fuel n).plain = true := by cases n <;> rfl

theorem rounds_go {body : AFr → AState → CR} {n : Nat} {fr fr' : AFr} {S S' : AState} (h : body fr S = some (.normal, fr', S')) : arounds body (n + 1) fr S = arounds body n fr' S' := by
  conv => lhs; unfold arounds; rw [h]
theorem rounds_stop {body : AFr → AState → CR} {n : Nat} {fr fr' : AFr} {S S' : AState} {e : AExit} (h : body fr S = some (e, fr', S')) (he : e ≠ .normal) : arounds body (n + 1) fr S = some (e, fr', S') := by
  unfold arounds; rw [h]
  cases e with
  | normal => exact absurd rfl he
  | exit _ => rfl
  | ret => rfl

/-! ### the code, step by step: what comes behind is a constant, till what comes first is known -/
theorem obind_val {α β : Type} (a : α) (f : α → Option β) : obind (some a) f = f a := rfl

def codeK (E : Env) (R : Recs) (rnd : Option Nat) (fuel : Nat) (c : Code) (fr : AFr) (S : AState) : CR := acode E R rnd fuel c fr S
def seqK (x : CR) (k : AFr → AState → CR) : CR := match x with | some (.normal, fr, S) => k fr S | r => r
def blockK (id : Nat) (x : CR) : CR := match x with | some (.exit i, fr, S) => if i == id then some (.normal, fr, S) else some (.exit i, fr, S) | r => r
def condK (v : AV) (a b : AFr → AState → CR) (fr : AFr) (S : AState) : CR := match v with | .lit (.bool true) => a fr S | .lit (.bool false) => b fr S | _ => none
def regK (p : AFr × AState) : CR := some (.normal, p.1, p.2)
def putK (dst : Option Tmp) (fr : AFr) (q : AV × AState) : Option (AFr × AState) := some (fr.put dst q.1, q.2)
def operK (R : Recs) (dst : Option Tmp) (fr : AFr) (p : ANext × AState) : Option (AFr × AState) :=
  match p.1 with
  | .val v => some (fr.put dst v, p.2)
  | .enter f args => obind (R.call f args p.2) (putK dst fr)
  | .round id args => obind (R.round id args p.2) (putK dst fr)
  | .dfr d => if R.plain then some ({ fr with defers := .call d :: fr.defers }.put dst undefA, p.2) else none
def opsK (E : Env) (R : Recs) (all r : List Oper) (p : AFr × AState) : Option (AFr × AState) := aops E R all r p.1 p.2
def wantK (E : Env) (R : Recs) (w : Bool) (all : List Oper) (o : Oper) (r : List Oper) (fr : AFr) (S : AState) : Option (AFr × AState) :=
  if w = true then obind (aoper E R o fr S) (opsK E R all r) else aops E R all r (fr.put o.dst undefA) S

theorem seqK_normal (fr : AFr) (S : AState) (k : AFr → AState → CR) : seqK (some (.normal, fr, S)) k = k fr S := rfl
theorem seqK_ret (fr : AFr) (S : AState) (k : AFr → AState → CR) : seqK (some (.ret, fr, S)) k = some (.ret, fr, S) := rfl
theorem seqK_exit (i : Nat) (fr : AFr) (S : AState) (k : AFr → AState → CR) : seqK (some (.exit i, fr, S)) k = some (.exit i, fr, S) := rfl
theorem blockK_normal (id : Nat) (fr : AFr) (S : AState) : blockK id (some (.normal, fr, S)) = some (.normal, fr, S) := rfl
theorem blockK_ret (id : Nat) (fr : AFr) (S : AState) : blockK id (some (.ret, fr, S)) = some (.ret, fr, S) := rfl
theorem blockK_exit (id i : Nat) (fr : AFr) (S : AState) : blockK id (some (.exit i, fr, S)) = if i = id then some (.normal, fr, S) else some (.exit i, fr, S) := by
  show (if (i == id) = true then _ else _) = _
  by_cases h : i = id <;> simp [h]
theorem condK_true (a b : AFr → AState → CR) (fr : AFr) (S : AState) : condK (.lit (.bool true)) a b fr S = a fr S := rfl
theorem condK_false (a b : AFr → AState → CR) (fr : AFr) (S : AState) : condK (.lit (.bool false)) a b fr S = b fr S := rfl
theorem regK_eq (fr : AFr) (S : AState) : regK (fr, S) = some (.normal, fr, S) := rfl
theorem putK_eq (dst : Option Tmp) (fr : AFr) (v : AV) (S : AState) : putK dst fr (v, S) = some (fr.put dst v, S) := rfl

variable {E : Env} {R : Recs} {rnd : Option Nat} {fuel : Nat}
theorem codeK_eq (c : Code) (fr : AFr) (S : AState) : codeK E R rnd fuel c fr S = acode E R rnd fuel c fr S := rfl
theorem code_seq (a b : Code) (fr : AFr) (S : AState) : acode E R rnd fuel (.seq a b) fr S = seqK (acode E R rnd fuel a fr S) (codeK E R rnd fuel b) := by
  conv => lhs; unfold acode
  unfold seqK
  rcases acode E R rnd fuel a fr S with _ | ⟨_ | _ | _, _, _⟩ <;> rfl
theorem code_region (i : Nat) (ops : Array Oper) (fr : AFr) (S : AState) : acode E R rnd fuel (.region i ops false) fr S = obind (aops E R ops.toList ops.toList fr S) regK := by
  conv => lhs; unfold acode
  simp only [Bool.false_eq_true, ↓reduceIte]
  rcases aops E R ops.toList ops.toList fr S with _ | ⟨_, _⟩ <;> rfl
theorem code_cond (c : Operand) (a b : Code) (fr : AFr) (S : AState) : acode E R rnd fuel (.cond c a b) fr S = condK (fr.eval c) (codeK E R rnd fuel a) (codeK E R rnd fuel b) fr S := by
  conv => lhs; unfold acode
  rfl
theorem code_block (id : Nat) (b : Code) (fr : AFr) (S : AState) : acode E R rnd fuel (.block id b) fr S = blockK id (acode E R rnd fuel b fr S) := by
  conv => lhs; unfold acode
  rfl
theorem code_skip (fr : AFr) (S : AState) : acode E R rnd fuel .skip fr S = some (.normal, fr, S) := rfl
theorem code_ret (fr : AFr) (S : AState) : acode E R rnd fuel .ret fr S = some (.ret, fr, S) := rfl
theorem code_exit (i : Nat) (fr : AFr) (S : AState) : acode E R rnd fuel (.exit i) fr S = some (.exit i, fr, S) := rfl
theorem code_loop (b : Code) (fr : AFr) (S : AState) : acode E R rnd fuel (.loop b) fr S = arounds (codeK E R rnd fuel b) fuel fr S := rfl

theorem operK_val (dst : Option Tmp) (fr : AFr) (v : AV) (S : AState) : operK R dst fr (.val v, S) = some (fr.put dst v, S) := rfl
theorem operK_enter (dst : Option Tmp) (fr : AFr) (f : FuncId) (args : List AV) (S : AState) : operK R dst fr (.enter f args, S) = obind (R.call f args S) (putK dst fr) := rfl
theorem operK_round (dst : Option Tmp) (fr : AFr) (id : Nat) (args : List AV) (S : AState) : operK R dst fr (.round id args, S) = obind (R.round id args S) (putK dst fr) := rfl
theorem oper_eq (o : Oper) (fr : AFr) (S : AState) : aoper E R o fr S = obind (aop E fr S o) (operK R o.dst fr) := by
  unfold aoper
  rcases aop E fr S o with _ | ⟨v | ⟨f, args⟩ | ⟨id, args⟩ | d, S'⟩
  · rfl
  · rfl
  · show _ = obind (R.call f args S') _
    simp only
    rcases R.call f args S' with _ | ⟨_, _⟩ <;> rfl
  · show _ = obind (R.round id args S') _
    simp only
    rcases R.round id args S' with _ | ⟨_, _⟩ <;> rfl
  · rfl
theorem opsK_eq (all r : List Oper) (fr : AFr) (S : AState) : opsK E R all r (fr, S) = aops E R all r fr S := rfl
theorem ops_nil (all : List Oper) (fr : AFr) (S : AState) : aops E R all [] fr S = some (fr, S) := rfl
theorem ops_cons (all : List Oper) (o : Oper) (r : List Oper) (fr : AFr) (S : AState) : aops E R all (o :: r) fr S = wantK E R (aWanted all fr o) all o r fr S := by
  conv => lhs; unfold aops
  unfold wantK
  split
  · rcases aoper E R o fr S with _ | ⟨_, _⟩ <;> rfl
  · rfl
theorem wantK_true (all : List Oper) (o : Oper) (r : List Oper) (fr : AFr) (S : AState) : wantK E R true all o r fr S = obind (aoper E R o fr S) (opsK E R all r) := rfl
theorem wantK_false (all : List Oper) (o : Oper) (r : List Oper) (fr : AFr) (S : AState) : wantK E R false all o r fr S = aops E R all r (fr.put o.dst undefA) S := rfl
def isB (want : Bool) (v : AV) : Bool := match v with | .lit (.bool b) => b == want | _ => false
theorem isB_bool (want b : Bool) : isB want (.lit (.bool b)) = (b == want) := rfl
/-! ### operations -/
abbrev ANextR := Option (ANext × AState)
def guardK (g : Option Oper) (fr : AFr) (want : Bool) : Bool := match g with | some g => (match g.dst with | some d => (match fr.get d with | .lit (.bool b) => b == want | _ => false) | none => false) | none => false
theorem aop_move (x : Operand) (dst : Option Tmp) (ty : TypeId) (pos : String) (after : Array Edge) (guard : Option (Nat × Bool)) (fr : AFr) (S : AState) : aop E fr S ⟨dst, .move x, ty, pos, after, guard⟩ = ret S (fr.eval x) := rfl
theorem aop_assign (x : Operand) (dst : Option Tmp) (ty : TypeId) (pos : String) (after : Array Edge) (guard : Option (Nat × Bool)) (fr : AFr) (S : AState) : aop E fr S ⟨dst, .assign x, ty, pos, after, guard⟩ = ret S (fr.eval x) := rfl
theorem aop_alloc (t : TypeId) (dst : Option Tmp) (ty : TypeId) (pos : String) (after : Array Edge) (guard : Option (Nat × Bool)) (fr : AFr) (S : AState) : aop E fr S ⟨dst, .alloc t, ty, pos, after, guard⟩ = obind (zeroT E.P t) fun z => obind (aNewRow S z.cells (z.cells.length) t true) fun (id, S') => ret S' (.ptr id 0) := rfl
theorem aop_box (t : TypeId) (x : Operand) (dst : Option Tmp) (ty : TypeId) (pos : String) (after : Array Edge) (guard : Option (Nat × Bool)) (fr : AFr) (S : AState) : aop E fr S ⟨dst, .box t x, ty, pos, after, guard⟩ = obind (aNewRow S (fr.eval x).cells (fr.eval x).cells.length t true) fun (id, S') => ret S' (.ptr id 0) := rfl
theorem aop_build (t : TypeId) (ps : Array (Nat × Operand)) (dst : Option Tmp) (ty : TypeId) (pos : String) (after : Array Edge) (guard : Option (Nat × Bool)) (fr : AFr) (S : AState) : aop E fr S ⟨dst, .build t ps, ty, pos, after, guard⟩ = val S (aBuild E.P t (evalParts fr ps.toList)) := rfl
theorem aop_buildSlice (t : TypeId) (n : Nat) (ps : Array (Nat × Operand)) (dst : Option Tmp) (ty : TypeId) (pos : String) (after : Array Edge) (guard : Option (Nat × Bool)) (fr : AFr) (S : AState) : aop E fr S ⟨dst, .buildSlice t n ps, ty, pos, after, guard⟩ = aBuildSlice E.P S t n (evalParts fr ps.toList) := rfl
theorem aop_load (t : TypeId) (a : Operand) (dst : Option Tmp) (ty : TypeId) (pos : String) (after : Array Edge) (guard : Option (Nat × Bool)) (fr : AFr) (S : AState) : aop E fr S ⟨dst, .load t a, ty, pos, after, guard⟩ = val S (aLoad E.P S t (fr.eval a)) := rfl
theorem aop_store (t : TypeId) (a v : Operand) (dst : Option Tmp) (ty : TypeId) (pos : String) (after : Array Edge) (guard : Option (Nat × Bool)) (fr : AFr) (S : AState) : aop E fr S ⟨dst, .store t a v, ty, pos, after, guard⟩ = unit (aStore E.P S t (fr.eval a) (fr.eval v)) := rfl
theorem aop_binOp (p : BinOp) (t : TypeId) (x y : Operand) (u : TypeId) (dst : Option Tmp) (ty : TypeId) (pos : String) (after : Array Edge) (guard : Option (Nat × Bool)) (fr : AFr) (S : AState) : aop E fr S ⟨dst, .binOp p t x y u, ty, pos, after, guard⟩ = val S (aBinOp E.P p t x y (fr.eval x) (fr.eval y)) := rfl
theorem aop_makeFunc (fn : Fn) (a b : Array Operand) (dst : Option Tmp) (ty : TypeId) (pos : String) (after : Array Edge) (guard : Option (Nat × Bool)) (fr : AFr) (S : AState) : aop E fr S ⟨dst, .makeFunc fn a b, ty, pos, after, guard⟩ = ret S (.func fn (evalList fr a.toList) (evalList fr b.toList)) := rfl
theorem aop_slice (t : TypeId) (x : Operand) (lo hi mx : Option Operand) (dst : Option Tmp) (ty : TypeId) (pos : String) (after : Array Edge) (guard : Option (Nat × Bool)) (fr : AFr) (S : AState) : aop E fr S ⟨dst, .slice t x lo hi mx, ty, pos, after, guard⟩ = val S (aSlice E.P S t (fr.eval x) (lo.map fr.eval) (hi.map fr.eval) (mx.map fr.eval)) := rfl
theorem aop_fieldAddr (t : TypeId) (x : Operand) (f : Nat) (dst : Option Tmp) (ty : TypeId) (pos : String) (after : Array Edge) (guard : Option (Nat × Bool)) (fr : AFr) (S : AState) : aop E fr S ⟨dst, .fieldAddr t x f, ty, pos, after, guard⟩ = val S (aFieldAddr E.P t (fr.eval x) f) := rfl
theorem aop_indexAddr (t : TypeId) (x i : Operand) (dst : Option Tmp) (ty : TypeId) (pos : String) (after : Array Edge) (guard : Option (Nat × Bool)) (fr : AFr) (S : AState) : aop E fr S ⟨dst, .indexAddr t x i, ty, pos, after, guard⟩ = val S (aIndexAddr E.P t (fr.eval x) (fr.eval i)) := rfl
theorem aop_index (t : TypeId) (x i : Operand) (dst : Option Tmp) (ty : TypeId) (pos : String) (after : Array Edge) (guard : Option (Nat × Bool)) (fr : AFr) (S : AState) : aop E fr S ⟨dst, .index t x i, ty, pos, after, guard⟩ = val S (aIndex E.P t (fr.eval x) (fr.eval i)) := rfl
theorem aop_convert (s d : TypeId) (x : Operand) (dst : Option Tmp) (ty : TypeId) (pos : String) (after : Array Edge) (guard : Option (Nat × Bool)) (fr : AFr) (S : AState) : aop E fr S ⟨dst, .convert s d x, ty, pos, after, guard⟩ = aConvert E.P S s d (fr.eval x) := rfl
theorem aop_callv (f : Operand) (as : Array Operand) (tys : Array TypeId) (dst : Option Tmp) (ty : TypeId) (pos : String) (after : Array Edge) (guard : Option (Nat × Bool)) (fr : AFr) (S : AState) : aop E fr S ⟨dst, .call ⟨.value f, as, tys⟩, ty, pos, after, guard⟩ = aCallY E S (fr.eval f) (evalList fr as.toList) := rfl
theorem aop_callb (b : Builtin) (as : Array Operand) (tys : Array TypeId) (dst : Option Tmp) (ty : TypeId) (pos : String) (after : Array Edge) (guard : Option (Nat × Bool)) (fr : AFr) (S : AState) : aop E fr S ⟨dst, .call ⟨.builtin b, as, tys⟩, ty, pos, after, guard⟩ = aBuiltin E S b tys ty (evalList fr as.toList) := rfl
theorem b_tf : (true == false) = false := rfl
theorem b_ft : (false == true) = false := rfl
theorem b_tt : (true == true) = true := rfl
theorem b_ff : (false == false) = true := rfl
def pickK (v a b : AV) (S : AState) : ANextR := match v with | .lit (.bool t) => ret S (if t then a else b) | _ => none
theorem pickK_true (a b : AV) (S : AState) : pickK (.lit (.bool true)) a b S = ret S a := rfl
theorem pickK_false (a b : AV) (S : AState) : pickK (.lit (.bool false)) a b S = ret S b := rfl
theorem aop_pick (c a b : Operand) (dst : Option Tmp) (ty : TypeId) (pos : String) (after : Array Edge) (guard : Option (Nat × Bool)) (fr : AFr) (S : AState) : aop E fr S ⟨dst, .pick c a b, ty, pos, after, guard⟩ = pickK (fr.eval c) (fr.eval a) (fr.eval b) S := rfl
def extK (v : AV) (i : Nat) (S : AState) : ANextR := match v with | .tuple vs => val S (vs[i]?) | .lit (.tuple vs) => val S ((vs[i]?).map .lit) | _ => none
theorem extK_lit (vs : Array Value) (i : Nat) (S : AState) : extK (.lit (.tuple vs)) i S = val S ((vs[i]?).map .lit) := rfl
theorem extK_tup (vs : List AV) (i : Nat) (S : AState) : extK (.tuple vs) i S = val S (vs[i]?) := rfl
theorem aop_extract (x : Operand) (i : Nat) (dst : Option Tmp) (ty : TypeId) (pos : String) (after : Array Edge) (guard : Option (Nat × Bool)) (fr : AFr) (S : AState) : aop E fr S ⟨dst, .extract x i, ty, pos, after, guard⟩ = extK (fr.eval x) i S := rfl
def unK (p : UnOp) (v : AV) (P : Program) (S : AState) : ANextR := match v with | .lit v => val S ((pureRun P (Op.unary p v)).map .lit) | _ => none
theorem unK_not (b : Bool) (P : Program) (S : AState) : unK .not (.lit (.bool b)) P S = some (.val (.lit (.bool (!b))), S) := rfl
theorem aop_unOp (p : UnOp) (t : TypeId) (x : Operand) (dst : Option Tmp) (ty : TypeId) (pos : String) (after : Array Edge) (guard : Option (Nat × Bool)) (fr : AFr) (S : AState) : aop E fr S ⟨dst, .unOp p t x, ty, pos, after, guard⟩ = unK p (fr.eval x) E.P S := rfl
theorem val_some (S : AState) (v : AV) : val S (some v) = some (.val v, S) := rfl
theorem unit_some (S : AState) : unit (some S) = some (.val undefA, S) := rfl
theorem ret_eq (S : AState) (v : AV) : ret S v = some (.val v, S) := rfl
theorem wanted_g (all : List Oper) (fr : AFr) (dst : Option Tmp) (o : Op) (ty : TypeId) (pos : String) (after : Array Edge) (j : Nat) (want : Bool) : aWanted all fr ⟨dst, o, ty, pos, after, some (j, want)⟩ = guardK (all[j]?) fr want := rfl
theorem wanted_0 (all : List Oper) (fr : AFr) (dst : Option Tmp) (o : Op) (ty : TypeId) (pos : String) (after : Array Edge) : aWanted all fr ⟨dst, o, ty, pos, after, none⟩ = true := rfl
theorem guardK_some (d : Nat) (o : Op) (ty : TypeId) (pos : String) (after : Array Edge) (g : Option (Nat × Bool)) (fr : AFr) (want : Bool) : guardK (some ⟨some d, o, ty, pos, after, g⟩) fr want = isB want (fr.get d) := rfl
theorem eval_tmp (f : AFr) (t : Nat) : f.eval (.tmp t) = f.get t := rfl
theorem eval_const (f : AFr) (v : Value) : f.eval (.const v) = .lit v := rfl
theorem eval_global (f : AFr) (g : Nat) : f.eval (.global g) = .lit (.pointer (some ⟨g, 0, none⟩)) := rfl
theorem eval_func (f : AFr) (fn : FuncId) : f.eval (.func fn) = .lit (.func (.func fn) #[] #[]) := rfl
theorem calY_yield (S : AState) (id : Nat) (args : List AV) : aCallY E S (.yield id) args = some (.round id args, S) := rfl
theorem calY_lit (S : AState) (g : FuncId) (args : List AV) (fn : Func) (c : Code) (hf : E.P.funcs[g]? = some fn) (hb : fn.body = some c) : aCallY E S (.lit (.func (.func g) #[] #[])) args = some (.enter g args, S) := by
  unfold aCallY aCall aFuncOf aCallFunc
  simp only [obind_val, List.map_nil, List.nil_append, List.append_nil, hf, hb, Option.isNone_some, Bool.false_eq_true, ↓reduceIte]
theorem cal_func (S : AState) (g : FuncId) (args cap : List AV) (fn : Func) (c : Code) (hf : E.P.funcs[g]? = some fn) (hb : fn.body = some c) : aCall E S (.func (.func g) [] cap) args = some (.enter g (args ++ cap), S) := by
  unfold aCall aFuncOf aCallFunc
  simp only [obind_val, List.nil_append, hf, hb, Option.isNone_some, Bool.false_eq_true, ↓reduceIte]

end
end Go.AM
