/- The abstract machine once more, made so that the kernel reckons with it at less cost; and that it is the same. -/
import Derived.Test.YtpmbnnobfjjpaaaGreatDoorAmWalk
namespace Go.AM
set_option linter.unusedVariables false
set_option linter.unusedSimpArgs false
noncomputable section

def fPick (fr : AFr) (S : AState) (c a b : Operand) : R := match fr.eval c with | .lit (.bool t) => ret S (if t then fr.eval a else fr.eval b) | _ => none
def fAlloc (E : Env) (S : AState) (t : TypeId) : R := obind (zeroT E.P t) fun z => obind (aNewRow S z.cells (z.cells.length) t true) fun (id, S') => ret S' (.ptr id 0)
def fBox (fr : AFr) (S : AState) (t : TypeId) (x : Operand) : R := let cs := (fr.eval x).cells; obind (aNewRow S cs cs.length t true) fun (id, S') => ret S' (.ptr id 0)
def fNil (fr : AFr) (S : AState) (x : Operand) : R := match fr.eval x with | .ptr i a => ret S (.ptr i a) | _ => none
def fUn (E : Env) (fr : AFr) (S : AState) (op : UnOp) (x : Operand) : R := match fr.eval x with | .lit v => val S ((pureRun E.P (Op.unary op v)).map .lit) | _ => none
def fIface (E : Env) (fr : AFr) (S : AState) (t : TypeId) (x : Operand) : R := match E.P.underlying t with | some (.interface _) => none | some _ => ret S (.iface t (fr.eval x)) | none => none
def fMap (S : AState) (r : Option Operand) : R := match r with | none => obind (S.new (.map [])) fun (id, S') => ret S' (.map id) | some _ => none
def fExt (fr : AFr) (S : AState) (x : Operand) (i : Nat) : R := match fr.eval x with | .tuple vs => val S (vs[i]?) | .lit (.tuple vs) => val S ((vs[i]?).map .lit) | _ => none
def fBin (P : Program) (op : BinOp) (t : TypeId) (ox oy : Operand) (x y : AV) : Option AV :=
  match x, y with
  | .lit (.int .i64 a), .lit (.int .i64 b) =>
    (match op with
    | .add => some (.lit (.int .i64 (IntKind.i64.wrap (a + b))))
    | .sub => some (.lit (.int .i64 (IntKind.i64.wrap (a - b))))
    | .lss => some (.lit (.bool (decide (a < b))))
    | .leq => some (.lit (.bool (decide (a ≤ b))))
    | .gtr => some (.lit (.bool (decide (a > b))))
    | .geq => some (.lit (.bool (decide (a ≥ b))))
    | .eql => some (.lit (.bool (a == b)))
    | .neq => some (.lit (.bool (a != b)))
    | _ => aBinOp P op t ox oy x y)
  | _, _ => aBinOp P op t ox oy x y
theorem fBin_eq (P : Program) (op : BinOp) (t : TypeId) (ox oy : Operand) (x y : AV) : fBin P op t ox oy x y = aBinOp P op t ox oy x y := by
  unfold fBin
  split
  · cases op <;> rfl
  · rfl
def fLen (E : Env) (S : AState) (argTypes : Array TypeId) (type : TypeId) (args : List AV) : R :=
  match args with
  | [.slice id o n c] => aBuiltin E S .len argTypes type [.slice id o n c]
  | [.lit (.string s)] => aBuiltin E S .len argTypes type [.lit (.string s)]
  | l => aBuiltin E S .len argTypes type l
def fCall (E : Env) (fr : AFr) (S : AState) (c : Call) (ty : TypeId) : R :=
  match c.callee with
  | .value f => aCallY E S (fr.eval f) (evalList fr c.args.toList)
  | .builtin b => aBuiltin E S b c.argTypes ty (evalList fr c.args.toList)
  | .invoke _ _ => none
def fDefer (fr : AFr) (S : AState) (c : Call) : R :=
  match c.callee with
  | .value f => obind (aFuncOf (fr.eval f)) fun (fn, first, captured) => some (.dfr { fn, captured, args := first ++ evalList fr c.args.toList }, S)
  | _ => none
def fSlice (E : Env) (fr : AFr) (S : AState) (t : TypeId) (x : Operand) (lo hi mx : Option Operand) : R := val S (aSlice E.P S t (fr.eval x) (lo.map fr.eval) (hi.map fr.eval) (mx.map fr.eval))
def fFun (fr : AFr) (S : AState) (fn : Fn) (a b : Array Operand) : R := ret S (.func fn (evalList fr a.toList) (evalList fr b.toList))
def fBuild (E : Env) (fr : AFr) (S : AState) (t : TypeId) (ps : Array (Nat × Operand)) : R := val S (aBuild E.P t (evalParts fr ps.toList))
def fBuildS (E : Env) (fr : AFr) (S : AState) (t : TypeId) (n : Nat) (ps : Array (Nat × Operand)) : R := aBuildSlice E.P S t n (evalParts fr ps.toList)
def fLoad (E : Env) (fr : AFr) (S : AState) (t : TypeId) (a : Operand) : R := val S (aLoad E.P S t (fr.eval a))
def fStore (E : Env) (fr : AFr) (S : AState) (t : TypeId) (a v : Operand) : R := unit (aStore E.P S t (fr.eval a) (fr.eval v))
def fBinO (E : Env) (fr : AFr) (S : AState) (op : BinOp) (t : TypeId) (x y : Operand) : R := val S (fBin E.P op t x y (fr.eval x) (fr.eval y))
def fLook (E : Env) (fr : AFr) (S : AState) (t : TypeId) (m k : Operand) (ok : Bool) : R := val S (aLookup E.P S t (fr.eval m) (fr.eval k) ok)
def fUpd (E : Env) (fr : AFr) (S : AState) (t : TypeId) (m k v : Operand) : R := unit (aMapUpdate E.P S t (fr.eval m) (fr.eval k) (fr.eval v))

/-- an operation, made ready: the kernel keeps it, and takes it up again -/
structure OpC where
  run : Env → AFr → AState → R
def intOf? (v : AV) : Option Int := match v with | .lit (.int .i64 a) => some a | _ => none
def bin2 (f : Int → Int → AV) (P : Program) (op : BinOp) (t : TypeId) (ox oy : Operand) (x y : AV) : Option AV :=
  match intOf? x with
  | some a => (match intOf? y with | some b => some (f a b) | none => aBinOp P op t ox oy x y)
  | none => aBinOp P op t ox oy x y
def binC (op : BinOp) (t : TypeId) (x y : Operand) : OpC :=
  match op with
  | .add => ⟨fun E fr S => val S (bin2 (fun a b => .lit (.int .i64 (IntKind.i64.wrap (a + b)))) E.P .add t x y (fr.eval x) (fr.eval y))⟩
  | .sub => ⟨fun E fr S => val S (bin2 (fun a b => .lit (.int .i64 (IntKind.i64.wrap (a - b)))) E.P .sub t x y (fr.eval x) (fr.eval y))⟩
  | .lss => ⟨fun E fr S => val S (bin2 (fun a b => .lit (.bool (decide (a < b)))) E.P .lss t x y (fr.eval x) (fr.eval y))⟩
  | .leq => ⟨fun E fr S => val S (bin2 (fun a b => .lit (.bool (decide (a ≤ b)))) E.P .leq t x y (fr.eval x) (fr.eval y))⟩
  | .gtr => ⟨fun E fr S => val S (bin2 (fun a b => .lit (.bool (decide (a > b)))) E.P .gtr t x y (fr.eval x) (fr.eval y))⟩
  | .geq => ⟨fun E fr S => val S (bin2 (fun a b => .lit (.bool (decide (a ≥ b)))) E.P .geq t x y (fr.eval x) (fr.eval y))⟩
  | .eql => ⟨fun E fr S => val S (bin2 (fun a b => .lit (.bool (a == b))) E.P .eql t x y (fr.eval x) (fr.eval y))⟩
  | .neq => ⟨fun E fr S => val S (bin2 (fun a b => .lit (.bool (a != b))) E.P .neq t x y (fr.eval x) (fr.eval y))⟩
  | p => ⟨fun E fr S => val S (aBinOp E.P p t x y (fr.eval x) (fr.eval y))⟩
theorem bin2_eq (f : Int → Int → AV) (P : Program) (op : BinOp) (t : TypeId) (ox oy : Operand) (x y : AV) (h : ∀ a b, aBinOp P op t ox oy (.lit (.int .i64 a)) (.lit (.int .i64 b)) = some (f a b)) : bin2 f P op t ox oy x y = aBinOp P op t ox oy x y := by
  unfold bin2 intOf?
  split
  · rename_i a ha
    split at ha
    · split
      · rename_i b hb
        split at hb
        · cases ha; cases hb; exact (h _ _).symm
        · cases hb
      · rfl
    · cases ha
  · rfl
theorem binC_eq (op : BinOp) (t : TypeId) (x y : Operand) (E : Env) (fr : AFr) (S : AState) : (binC op t x y).run E fr S = val S (aBinOp E.P op t x y (fr.eval x) (fr.eval y)) := by
  cases op <;> first | rfl | (show val S (bin2 _ E.P _ t x y _ _) = _; rw [bin2_eq]; intro a b; rfl)
def compileOp (o : Oper) : OpC :=
  match o.op with
  | .move x => ⟨fun _ fr S => ret S (fr.eval x)⟩
  | .assign x => ⟨fun _ fr S => ret S (fr.eval x)⟩
  | .pick c a b => ⟨fun _ fr S => fPick fr S c a b⟩
  | .alloc t => ⟨fun E _ S => fAlloc E S t⟩
  | .box t x => ⟨fun _ fr S => fBox fr S t x⟩
  | .build t ps => ⟨fun E fr S => fBuild E fr S t ps⟩
  | .buildSlice t n ps => ⟨fun E fr S => fBuildS E fr S t n ps⟩
  | .load t a => ⟨fun E fr S => fLoad E fr S t a⟩
  | .store t a v => ⟨fun E fr S => fStore E fr S t a v⟩
  | .nilCheck x => ⟨fun _ fr S => fNil fr S x⟩
  | .binOp op t x y _ => binC op t x y
  | .unOp op _ x => ⟨fun E fr S => fUn E fr S op x⟩
  | .convert s d x => ⟨fun E fr S => aConvert E.P S s d (fr.eval x)⟩
  | .makeInterface t x => ⟨fun E fr S => fIface E fr S t x⟩
  | .makeFunc fn a b => ⟨fun _ fr S => fFun fr S fn a b⟩
  | .makeMap _ r => ⟨fun _ _ S => fMap S r⟩
  | .makeSlice t l c => ⟨fun E fr S => aMakeSlice E.P S t (fr.eval l) (fr.eval c)⟩
  | .slice t x lo hi mx => ⟨fun E fr S => fSlice E fr S t x lo hi mx⟩
  | .fieldAddr t x f => ⟨fun E fr S => val S (aFieldAddr E.P t (fr.eval x) f)⟩
  | .field t x f => ⟨fun E fr S => val S (aField E.P t (fr.eval x) f)⟩
  | .indexAddr t x i => ⟨fun E fr S => val S (aIndexAddr E.P t (fr.eval x) (fr.eval i))⟩
  | .index t x i => ⟨fun E fr S => val S (aIndex E.P t (fr.eval x) (fr.eval i))⟩
  | .lookup t m k ok => ⟨fun E fr S => fLook E fr S t m k ok⟩
  | .mapUpdate t m k v => ⟨fun E fr S => fUpd E fr S t m k v⟩
  | .insert t m k v => ⟨fun E fr S => fUpd E fr S t m k v⟩
  | .typeAssert x _ a ok => ⟨fun E fr S => val S (aTypeAssert E.P (fr.eval x) a ok)⟩
  | .extract x i => ⟨fun _ fr S => fExt fr S x i⟩
  | .call c => ⟨fun E fr S => fCall E fr S c o.type⟩
  | .defer c => ⟨fun _ fr S => fDefer fr S c⟩
  | _ => ⟨fun _ _ _ => none⟩
def aopF (E : Env) (fr : AFr) (S : AState) (o : Oper) : R := (compileOp o).run E fr S

theorem aopF_eq (E : Env) (fr : AFr) (S : AState) (o : Oper) : aopF E fr S o = aop E fr S o := by
  obtain ⟨dst, op, ty, pos, after, guard⟩ := o
  cases op <;> first | rfl | exact binC_eq _ _ _ _ E fr S

def operF (R : Recs) (dst : Option Tmp) (fr : AFr) (x : Go.AM.R) : Option (AFr × AState) :=
  match x with
  | some (.val v, S') => some (fr.put dst v, S')
  | some (.enter f args, S') => (match R.call f args S' with | some (v, S'') => some (fr.put dst v, S'') | none => none)
  | some (.round id args, S') => (match R.round id args S' with | some (v, S'') => some (fr.put dst v, S'') | none => none)
  | some (.dfr d, S') => if R.plain then some ({ fr with defers := .call d :: fr.defers }.put dst undefA, S') else none
  | none => none
theorem operF_eq (E : Env) (R : Recs) (o : Oper) (fr : AFr) (S : AState) : operF R o.dst fr (aopF E fr S o) = aoper E R o fr S := by
  rw [aopF_eq]; rfl

def bindF (x : Option (AFr × AState)) (k : AFr → AState → Option (AFr × AState)) : Option (AFr × AState) := Option.rec (motive := fun _ => Option (AFr × AState)) none (fun p => k p.1 p.2) x
def stepF (E : Env) (R : Recs) (all : List Oper) (o : Oper) (ih : AFr → AState → Option (AFr × AState)) (fr : AFr) (S : AState) : Option (AFr × AState) :=
  Bool.rec (motive := fun _ => Option (AFr × AState)) (ih (fr.put o.dst undefA) S) (bindF (operF R o.dst fr (aopF E fr S o)) ih) (aWanted all fr o)
def aopsF (E : Env) (R : Recs) (all : List Oper) (l : List Oper) : AFr → AState → Option (AFr × AState) :=
  List.rec (motive := fun _ => AFr → AState → Option (AFr × AState)) (fun fr S => some (fr, S)) (fun o _ ih fr S => stepF E R all o ih fr S) l
theorem aopsF_eq (E : Env) (R : Recs) (all : List Oper) : ∀ (l : List Oper) (fr : AFr) (S : AState), aopsF E R all l fr S = aops E R all l fr S
  | [], _, _ => rfl
  | o :: r, fr, S => by
    have ih : aopsF E R all r = aops E R all r := by funext fr S; exact aopsF_eq E R all r fr S
    show stepF E R all o (aopsF E R all r) fr S = _
    rw [ih, ops_cons]
    unfold stepF wantK
    rw [operF_eq]
    cases aWanted all fr o
    · rfl
    · show bindF (aoper E R o fr S) (aops E R all r) = obind (aoper E R o fr S) (opsK E R all r)
      rcases aoper E R o fr S with _ | ⟨_, _⟩ <;> rfl

def regF (E : Env) (R : Recs) (ops : Array Oper) (draw : Bool) (fr : AFr) (S : AState) : CR :=
  match (Bool.rec (motive := fun _ => Option (AFr × AState)) (aopsF E R ops.toList ops.toList fr S) (adraw E R ops.toList fr S) draw) with
  | some (fr', S') => some (.normal, fr', S')
  | none => none
def seqF (x : CR) (k : AFr → AState → CR) : CR := match x with | some (.normal, fr, S) => k fr S | r => r
def rfF (E : Env) (R : Recs) (rnd : Option Nat) (f : Operand) (params : Array Tmp) (assign body : Code) (fr : AFr) (S : AState) : CR := acode E R rnd 0 (.rangeFunc f params assign body) fr S
def roundsF (body : AFr → AState → CR) (n : Nat) : AFr → AState → CR :=
  Nat.rec (motive := fun _ => AFr → AState → CR) (fun _ _ => none) (fun _ ih fr S => seqF (body fr S) ih) n
theorem roundsF_eq (body : AFr → AState → CR) : ∀ (n : Nat) (fr : AFr) (S : AState), roundsF body n fr S = arounds body n fr S
  | 0, _, _ => rfl
  | n + 1, fr, S => by
    have ih : roundsF body n = arounds body n := by funext fr S; exact roundsF_eq body n fr S
    show seqF (body fr S) (roundsF body n) = _
    rw [ih]
    conv => rhs; unfold arounds
    unfold seqF
    rcases body fr S with _ | ⟨_ | _ | _, _, _⟩ <;> rfl

def acodeF (E : Env) (R : Recs) (rnd : Option Nat) (fuel : Nat) (c : Code) : AFr → AState → CR :=
  Code.rec (motive := fun _ => AFr → AState → CR)
    (fun fr S => some (.normal, fr, S))
    (fun _ ops draw fr S => regF E R ops draw fr S)
    (fun _ _ ia ib fr S => seqF (ia fr S) ib)
    (fun c _ _ ia ib fr S => condK (fr.eval c) ia ib fr S)
    (fun id _ ib fr S => blockK id (ib fr S))
    (fun _ ib fr S => roundsF ib fuel fr S)
    (fun f ps a b _ _ fr S => rfF E R rnd f ps a b fr S)
    (fun id fr S => some (.exit id, fr, S))
    (fun _ ib fr S => ib fr S)
    (fun _ fr S => some (.normal, fr, S))
    (fun _ _ _ => none)
    (fun fr S => some (.ret, fr, S))
    (fun _ _ _ => none) c

theorem acodeF_eq (E : Env) (R : Recs) (rnd : Option Nat) (fuel : Nat) : ∀ (c : Code) (fr : AFr) (S : AState), acodeF E R rnd fuel c fr S = acode E R rnd fuel c fr S := by
  intro c
  induction c with
  | skip => intro _ _; rfl
  | region id ops draw =>
    intro fr S
    show regF E R ops draw fr S = _
    unfold regF
    conv => rhs; unfold acode
    cases draw
    · show (match aopsF E R ops.toList ops.toList fr S with | some (fr', S') => _ | none => _) = _
      rw [aopsF_eq]; rfl
    · rfl
  | seq a b iha ihb =>
    intro fr S
    show seqF (acodeF E R rnd fuel a fr S) (acodeF E R rnd fuel b) = _
    rw [code_seq, iha]
    have : acodeF E R rnd fuel b = codeK E R rnd fuel b := by funext fr S; exact ihb fr S
    rw [this]; rfl
  | cond c a b iha ihb =>
    intro fr S
    show condK (fr.eval c) (acodeF E R rnd fuel a) (acodeF E R rnd fuel b) fr S = _
    have h1 : acodeF E R rnd fuel a = codeK E R rnd fuel a := by funext fr S; exact iha fr S
    have h2 : acodeF E R rnd fuel b = codeK E R rnd fuel b := by funext fr S; exact ihb fr S
    rw [h1, h2, code_cond]
  | block id b ih =>
    intro fr S
    show blockK id (acodeF E R rnd fuel b fr S) = _
    rw [ih, code_block]
  | loop b ih =>
    intro fr S
    show roundsF (acodeF E R rnd fuel b) fuel fr S = _
    have h1 : acodeF E R rnd fuel b = codeK E R rnd fuel b := by funext fr S; exact ih fr S
    rw [h1, roundsF_eq, code_loop]
  | rangeFunc f ps a b _ _ => intro fr S; rfl
  | «exit» id => intro _ _; rfl
  | scope b ih =>
    intro fr S
    show acodeF E R rnd fuel b fr S = _
    rw [ih]; rfl
  | label l => intro _ _; rfl
  | goto l => intro _ _; rfl
  | ret => intro _ _; rfl
  | refuse w => intro _ _; rfl

def abodyF (E : Env) (fuel : Nat) (R : Recs) (fn : Func) (c : Code) (args : List AV) (S : AState) : Option (AFr × AState) :=
  if max fn.ntmps args.length ≤ 512 then
    match acodeF E R none fuel c { tmps := putArgs 0 args .nil, size := max fn.ntmps args.length, defers := [] } S with
    | some (.normal, fr, S') => some (fr, S')
    | some (.ret, fr, S') => some (fr, S')
    | _ => none
  else none
theorem abodyF_eq : abodyF = abody := by
  funext E fuel R fn c args S
  unfold abodyF abody
  rw [acodeF_eq]; rfl
def acallFF (E : Env) (hook : Hook) (fuel : Nat) (R : Recs) (f : FuncId) (args : List AV) (S : AState) : Option (AV × AState) :=
  match hook f args S with
  | some r => r
  | none =>
  match E.P.funcs[f]? with
  | none => none
  | some fn =>
    match fn.body with
    | none => none
    | some c =>
      match abodyF E fuel R fn c args S with
      | some (fr, S') =>
        match adefers E R fr.defers S' with
        | some S'' => obind (aresults E fr S'' fn.results.toList) fun vs => some (pack vs, S'')
        | none => none
      | none => none
theorem acallFF_eq : acallFF = acallF := by
  funext E hook fuel R f args S
  unfold acallFF acallF
  rw [abodyF_eq]; rfl
def adcallFF (E : Env) (fuel : Nat) (R : Recs) (f : FuncId) (args : List AV) (S : AState) : Option AState :=
  match E.P.funcs[f]? with
  | none => none
  | some fn =>
    match fn.body with
    | none => none
    | some c =>
      match abodyF E fuel R fn c args S with
      | some (fr, S') => if fr.defers.isEmpty then obind (aresults E fr S' fn.results.toList) fun _ => some S' else none
      | none => none
theorem adcallFF_eq : adcallFF = adcallF := by
  funext E fuel R f args S
  unfold adcallFF adcallF
  rw [abodyF_eq]; rfl
def aroundFF (E : Env) (fuel : Nat) (R : Recs) (l : Nat) (args : List AV) (S : AState) : Option (AV × AState) :=
  match S.get l with
  | some (.loop _ _ tmps size params assign body _) =>
    if args.length == params.length then
      match acodeF E { R with plain := false } (some l) fuel assign { tmps := putParams params args size tmps, size, defers := [] } S with
      | some (.normal, fr1, S1) =>
        match S1.get l with
        | some (.loop .ready pend1 t1 s1 p1 a1 b1 d1) =>
          match acodeF E { R with plain := false } (some l) fuel body fr1 (S1.put l (.loop .busy pend1 t1 s1 p1 a1 b1 d1)) with
          | some (e, _, S3) =>
            match S3.get l with
            | some (.loop _ _ t3 s3 p3 a3 b3 d3) =>
              match e with
              | .normal => some (litB true, S3.put l (.loop .ready none t3 s3 p3 a3 b3 d3))
              | .ret => some (litB false, S3.put l (.loop .done (some .ret) t3 s3 p3 a3 b3 d3))
              | .exit k => some (litB false, S3.put l (.loop .done (some (.exit k)) t3 s3 p3 a3 b3 d3))
            | _ => none
          | none => none
        | _ => none
      | _ => none
    else none
  | _ => none
theorem aroundFF_eq : aroundFF = aroundF := by
  funext E fuel R l args S
  have h : ∀ R rnd c fr S, acodeF E R rnd fuel c fr S = acode E R rnd fuel c fr S := fun R rnd c fr S => acodeF_eq E R rnd fuel c fr S
  unfold aroundFF aroundF
  simp only [h]
  rfl

def arecsF (E : Env) (hook : Hook) (fuel : Nat) (n : Nat) : Recs :=
  Nat.rec (motive := fun _ => Recs) { call := fun _ _ _ => none, round := fun _ _ _ => none, dcall := fun _ _ _ => none, plain := true }
    (fun _ ih => { call := acallFF E hook fuel ih, round := aroundFF E fuel ih, dcall := adcallFF E fuel ih, plain := true }) n
theorem arecsF_eq (E : Env) (hook : Hook) (fuel : Nat) : ∀ n, arecsF E hook fuel n = arecs E hook fuel n
  | 0 => rfl
  | n + 1 => by
    show { call := acallFF E hook fuel (arecsF E hook fuel n), round := aroundFF E fuel (arecsF E hook fuel n), dcall := adcallFF E fuel (arecsF E hook fuel n), plain := true : Recs } = _
    rw [arecsF_eq E hook fuel n, acallFF_eq, aroundFF_eq, adcallFF_eq]; rfl
end
end Go.AM
