/- The abstract machine: a deterministic evaluator of the loaded code, over abstract values and rows. Definitions only. -/
import Derived.CallsIn
import Derived.RangeFuncLeaves
namespace Go.AM
set_option linter.unusedVariables false
set_option linter.unusedSimpArgs false

/-- an abstract value -/
inductive AV where
  | lit (v : Value)
  | ptr (id off : Nat)
  | slice (id off len : Nat) (cap : Option Nat)
  | map (id : Nat)
  | func (fn : Fn) (first captured : List AV)
  | yield (id : Nat)
  | iface (t : TypeId) (v : AV)
  | agg (cells : List AV)
  | tuple (vs : List AV)
  deriving Inhabited

/-- a binary trie of a fixed depth -/
inductive T (α : Type) where
  | nil
  | leaf (v : α)
  | node (l r : T α)
  deriving Inhabited

/-- a leaf's value -/
noncomputable def T.leafOf {α : Type} (t : T α) : Option α := T.rec (motive := fun _ => Option α) none (fun v => some v) (fun _ _ _ _ => none) t

/-- by the recursors themselves: the kernel reckons with them at little cost -/
noncomputable def T.get {α : Type} (d : Nat) : T α → Nat → Option α :=
  Nat.rec (motive := fun _ => T α → Nat → Option α) (fun t _ => T.leafOf t)
    (fun _ ih t n => T.rec (motive := fun _ => Option α) none (fun _ => none)
      (fun l r _ _ => Bool.rec (motive := fun _ => Option α) (ih r (Nat.div n 2)) (ih l (Nat.div n 2)) (Nat.beq (Nat.mod n 2) 0)) t) d

noncomputable def T.put {α : Type} (d : Nat) : T α → Nat → T α → T α :=
  Nat.rec (motive := fun _ => T α → Nat → T α → T α) (fun _ _ x => x)
    (fun _ ih t n x => T.rec (motive := fun _ => T α)
      (Bool.rec (motive := fun _ => T α) (.node .nil (ih .nil (Nat.div n 2) x)) (.node (ih .nil (Nat.div n 2) x) .nil) (Nat.beq (Nat.mod n 2) 0))
      (fun _ => Bool.rec (motive := fun _ => T α) (.node .nil (ih .nil (Nat.div n 2) x)) (.node (ih .nil (Nat.div n 2) x) .nil) (Nat.beq (Nat.mod n 2) 0))
      (fun l r _ _ => Bool.rec (motive := fun _ => T α) (.node l (ih r (Nat.div n 2) x)) (.node (ih l (Nat.div n 2) x) r) (Nat.beq (Nat.mod n 2) 0)) t) d

theorem T.get_leaf {α : Type} (v : α) (n : Nat) : T.get 0 (.leaf v) n = some v := rfl
theorem T.get_none {α : Type} (n : Nat) : T.get 0 (.nil : T α) n = none := rfl
theorem beq_mod {n : Nat} (h : n % 2 = 0) : Nat.beq (Nat.mod n 2) 0 = true := by
  show Nat.beq (n % 2) 0 = true; rw [h]; rfl
theorem beq_mod1 {n : Nat} (h : n % 2 = 1) : Nat.beq (Nat.mod n 2) 0 = false := by
  show Nat.beq (n % 2) 0 = false; rw [h]; rfl
theorem T.get_node0 {α : Type} (d : Nat) (l r : T α) (n : Nat) (h : n % 2 = 0) : T.get (d + 1) (.node l r) n = T.get d l (n / 2) := by
  show Bool.rec (motive := fun _ => Option α) (T.get d r (n / 2)) (T.get d l (n / 2)) (Nat.beq (Nat.mod n 2) 0) = _
  rw [beq_mod h]
theorem T.get_node1 {α : Type} (d : Nat) (l r : T α) (n : Nat) (h : n % 2 = 1) : T.get (d + 1) (.node l r) n = T.get d r (n / 2) := by
  show Bool.rec (motive := fun _ => Option α) (T.get d r (n / 2)) (T.get d l (n / 2)) (Nat.beq (Nat.mod n 2) 0) = _
  rw [beq_mod1 h]
theorem T.get_nils {α : Type} (d n : Nat) : T.get d (.nil : T α) n = none := by cases d <;> rfl
theorem T.get_leaf1 {α : Type} (d : Nat) (v : α) (n : Nat) : T.get (d + 1) (.leaf v) n = none := rfl
/-- the parts of a node, nil where there is none -/
def T.parts {α : Type} : T α → T α × T α
  | .node l r => (l, r)
  | _ => (.nil, .nil)
theorem T.put_0 {α : Type} (d : Nat) (t : T α) (n : Nat) (x : T α) (h : n % 2 = 0) : T.put (d + 1) t n x = .node (T.put d t.parts.1 (n / 2) x) t.parts.2 := by
  cases t
  · show Bool.rec (motive := fun _ => T α) (.node .nil (T.put d .nil (n / 2) x)) (.node (T.put d .nil (n / 2) x) .nil) (Nat.beq (Nat.mod n 2) 0) = _
    rw [beq_mod h]; rfl
  · show Bool.rec (motive := fun _ => T α) (.node .nil (T.put d .nil (n / 2) x)) (.node (T.put d .nil (n / 2) x) .nil) (Nat.beq (Nat.mod n 2) 0) = _
    rw [beq_mod h]; rfl
  · rename_i l r
    show Bool.rec (motive := fun _ => T α) (.node l (T.put d r (n / 2) x)) (.node (T.put d l (n / 2) x) r) (Nat.beq (Nat.mod n 2) 0) = _
    rw [beq_mod h]; rfl
theorem T.put_1 {α : Type} (d : Nat) (t : T α) (n : Nat) (x : T α) (h : n % 2 = 1) : T.put (d + 1) t n x = .node t.parts.1 (T.put d t.parts.2 (n / 2) x) := by
  cases t
  · show Bool.rec (motive := fun _ => T α) (.node .nil (T.put d .nil (n / 2) x)) (.node (T.put d .nil (n / 2) x) .nil) (Nat.beq (Nat.mod n 2) 0) = _
    rw [beq_mod1 h]; rfl
  · show Bool.rec (motive := fun _ => T α) (.node .nil (T.put d .nil (n / 2) x)) (.node (T.put d .nil (n / 2) x) .nil) (Nat.beq (Nat.mod n 2) 0) = _
    rw [beq_mod1 h]; rfl
  · rename_i l r
    show Bool.rec (motive := fun _ => T α) (.node l (T.put d r (n / 2) x)) (.node (T.put d l (n / 2) x) r) (Nat.beq (Nat.mod n 2) 0) = _
    rw [beq_mod1 h]; rfl
theorem T.get_0 {α : Type} (d : Nat) (t : T α) (n : Nat) (h : n % 2 = 0) : T.get (d + 1) t n = T.get d t.parts.1 (n / 2) := by
  cases t
  · exact (T.get_nils d _).symm
  · exact (T.get_nils d _).symm
  · exact T.get_node0 d _ _ n h
theorem T.get_1 {α : Type} (d : Nat) (t : T α) (n : Nat) (h : n % 2 = 1) : T.get (d + 1) t n = T.get d t.parts.2 (n / 2) := by
  cases t
  · exact (T.get_nils d _).symm
  · exact (T.get_nils d _).symm
  · exact T.get_node1 d _ _ n h

noncomputable section
/-- what lies in the abstract heap -/
inductive AObj where
  | row (cells : List AV) (esz : Nat) (elem : TypeId) (exact : Bool)
  | map (es : List (AV × AV))
  | deferred
  | fixed (block : Nat) (o : Obj)     -- what stands there stays
  | loop (state : LoopState) (pending : Option Code) (tmps : T AV) (size : Nat) (params : List Tmp) (assign body : Code) (dblk : Nat)
  deriving Inhabited

structure AState where
  heap : T AObj
  next : Nat
  deriving Inhabited

structure ADefer where
  fn : Fn
  captured : List AV
  args : List AV

/-- what is deferred: a call, or a mark -/
inductive ADef where
  | call (d : ADefer)
  | mark (id : Nat)

/-- the frame: temporaries, deferred calls -/
structure AFr where
  tmps : T AV
  size : Nat
  defers : List ADef

abbrev HD : Nat := 16
abbrev FD : Nat := 9

def undefA : AV := .lit (.tuple #[])

def AFr.get (f : AFr) (t : Nat) : AV := if t < f.size then (match T.get FD f.tmps t with | some v => v | none => undefA) else undefA

def AFr.put (f : AFr) (dst : Option Tmp) (v : AV) : AFr :=
  match dst with
  | some d => if d < f.size then { f with tmps := T.put FD f.tmps d (.leaf v) } else f
  | none => f

def AFr.eval (f : AFr) : Operand → AV
  | .tmp t => f.get t
  | .const v => .lit v
  | .global g => .lit (.pointer (some ⟨g, 0, none⟩))
  | .func fn => .lit (.func (.func fn) #[] #[])

def AV.cells : AV → List AV
  | .agg cs => cs
  | .lit (.agg cs) => cs.toList.map .lit
  | v => [v]

def AV.one : AV → Bool
  | .agg _ => false
  | .tuple _ => false
  | .lit (.agg _) => false
  | .lit (.tuple _) => false
  | _ => true

/-- a value without addresses, if it is one -/
def flatList : List AV → Option (List Value)
  | [] => some []
  | .lit v :: r => match flatList r with | some l => some (v :: l) | none => none
  | _ :: _ => none

def AV.flat : AV → Option Value
  | .lit v => some v
  | .agg cs => match flatList cs with | some l => some (.agg l.toArray) | none => none
  | _ => none

/-- an operation that asks for nothing but the program -/
def pureRun {α : Type} (P : Program) : Sem α → Option α
  | .pure a => some a
  | .program k => pureRun P (k P)
  | _ => none

def AState.get (S : AState) (id : Nat) : Option AObj := if id < 65536 then T.get HD S.heap id else none
def AState.put (S : AState) (id : Nat) (o : AObj) : AState := { S with heap := T.put HD S.heap id (.leaf o) }
def AState.kill (S : AState) (id : Nat) : AState := { S with heap := T.put HD S.heap id .nil }
/-- a new object, its number -/
def AState.new (S : AState) (o : AObj) : Option (Nat × AState) :=
  if S.next < 65536 then some (S.next, { heap := T.put HD S.heap S.next (.leaf o), next := S.next + 1 }) else none

def obind {α β : Type} (x : Option α) (f : α → Option β) : Option β := match x with | some a => f a | none => none

def isAggT (P : Program) (t : TypeId) : Option Bool :=
  match P.underlying t with
  | some (.struct _) => some true
  | some (.array _ _) => some true
  | some _ => some false
  | none => none
def sizeT (P : Program) (t : TypeId) : Option Nat := match P.info? t with | some i => some i.size | none => none
def zeroT (P : Program) (t : TypeId) : Option AV :=
  match P.info? t with
  | some i => match i.zero with | some v => some (.lit v) | none => none
  | none => none

inductive ANext where
  | val (v : AV)
  | enter (f : FuncId) (args : List AV)
  | round (id : Nat) (args : List AV)
  | dfr (d : ADefer)

abbrev R := Option (ANext × AState)
def ret (S : AState) (v : AV) : R := some (.val v, S)

def listSet : List AV → Nat → List AV → List AV
  | cs, 0, new => new ++ cs.drop new.length
  | [], _ + 1, _ => []
  | c :: cs, n + 1, new => c :: listSet cs n new

def allOne : List AV → Bool
  | [] => true
  | v :: r => v.one && allOne r

def aLoad (P : Program) (S : AState) (t : TypeId) (a : AV) : Option AV :=
  match a with
  | .ptr id off =>
    match S.get id with
    | some (.row cells _ _ _) =>
      match isAggT P t with
      | some true => obind (sizeT P t) fun n => if off + n ≤ cells.length then some (.agg ((cells.drop off).take n)) else none
      | some false => cells[off]?
      | none => none
    | _ => none
  | _ => none

def aStore (P : Program) (S : AState) (t : TypeId) (a v : AV) : Option AState :=
  match a with
  | .ptr id off =>
    match S.get id with
    | some (.row cells esz el ex) =>
      let new := v.cells
      obind (sizeT P t) fun n =>
      if new.length == n && off + n ≤ cells.length && allOne new then some (S.put id (.row (listSet cells off new) esz el ex)) else none
    | _ => none
  | _ => none

/-- a place of a part within cells -/
def aFill (place : Nat → Option (Nat × Nat)) (cells : List AV) : List (Nat × AV) → Option (List AV)
  | [] => some cells
  | (i, v) :: rest =>
    match place i with
    | none => none
    | some (off, size) =>
      let new := v.cells
      if new.length == size && off + size ≤ cells.length && allOne new then aFill place (listSet cells off new) rest else none

def places (P : Program) : List Field → Option (List (Nat × Nat))
  | [] => some []
  | f :: r => obind (sizeT P f.type) fun n => obind (places P r) fun l => some ((f.offset, n) :: l)

def aBuild (P : Program) (t : TypeId) (parts : List (Nat × AV)) : Option AV :=
  obind (zeroT P t) fun z =>
  match P.underlying t with
  | some (.struct fields) =>
    obind (places P fields.toList) fun pl =>
    obind (aFill (fun i => pl[i]?) z.cells parts) fun cs => some (.agg cs)
  | some (.array _ elem) =>
    obind (sizeT P elem) fun n =>
    obind (aFill (fun i => some (i * n, n)) z.cells parts) fun cs => some (.agg cs)
  | _ => none

def repeatCells (z : List AV) : Nat → List AV
  | 0 => []
  | n + 1 => z ++ repeatCells z n

def aNewRow (S : AState) (cells : List AV) (esz : Nat) (elem : TypeId) (exact : Bool) : Option (Nat × AState) := if allOne cells then S.new (.row cells esz elem exact) else none

def aBuildSlice (P : Program) (S : AState) (t : TypeId) (len : Nat) (parts : List (Nat × AV)) : R :=
  match P.underlying t with
  | some (.slice elem) =>
    obind (sizeT P elem) fun n =>
    if n == 0 || len * n > 100000 then none else
    obind (zeroT P elem) fun z =>
    if z.cells.length != n then none else
    obind (aFill (fun i => some (i * n, n)) (repeatCells z.cells len) parts) fun cs =>
    if cs.length == len * n then obind (aNewRow S cs n elem true) fun (id, S') => ret S' (.slice id 0 len (some len)) else none
  | _ => none

def aPart (P : Program) (t : TypeId) (cs : List AV) (off : Nat) : Option AV :=
  match isAggT P t with
  | some true => obind (sizeT P t) fun n => some (.agg ((cs.drop off).take n))
  | some false => cs[off]?
  | none => none

def aField (P : Program) (t : TypeId) (x : AV) (f : Nat) : Option AV :=
  match P.underlying t, x with
  | some (.struct fields), .agg cs => match fields[f]? with | some fd => aPart P fd.type cs fd.offset | none => none
  | some (.struct fields), .lit (.agg cs) => match fields[f]? with | some fd => aPart P fd.type (cs.toList.map .lit) fd.offset | none => none
  | _, _ => none

def aFieldAddr (P : Program) (t : TypeId) (x : AV) (f : Nat) : Option AV :=
  match P.underlying t, x with
  | some (.struct fields), .ptr id off =>
    match fields[f]? with
    | some fd => obind (sizeT P fd.type) fun n => if n == 0 then none else some (.ptr id (off + fd.offset))
    | none => none
  | _, _ => none

def natOf : AV → Option Nat
  | .lit (.int _ (.ofNat n)) => some n
  | _ => none

def aIndexAddr (P : Program) (t : TypeId) (x ix : AV) : Option AV :=
  obind (natOf ix) fun i =>
  match P.underlying t, x with
  | some (.array len elem), .ptr id off => obind (sizeT P elem) fun n => if i < len then some (.ptr id (off + i * n)) else none
  | some (.slice elem), .slice id off len _ => obind (sizeT P elem) fun n => if i < len then some (.ptr id (off + i * n)) else none
  | _, _ => none

def aIndex (P : Program) (t : TypeId) (x ix : AV) : Option AV :=
  match x with
  | .lit (.string s) => match ix.flat with | some i => (pureRun P (Instr.index t (.string s) i)).map .lit | none => none
  | .agg cs =>
    match P.underlying t with
    | some (.array len elem) => obind (natOf ix) fun i => obind (sizeT P elem) fun n => if i < len then aPart P elem cs (i * n) else none
    | _ => none
  | .lit (.agg cs) =>
    match P.underlying t with
    | some (.array len elem) => obind (natOf ix) fun i => obind (sizeT P elem) fun n => if i < len then aPart P elem (cs.toList.map .lit) (i * n) else none
    | _ => none
  | _ => none

/-- an optional bound -/
def bnd (d : Nat) : Option AV → Option Nat
  | none => some d
  | some v => natOf v

def flatOpt : Option AV → Option (Option Value)
  | none => some none
  | some v => match v.flat with | some u => some (some u) | none => none

/-- where a part of a slice begins -/
def subSlice (id off l h m n : Nat) : AV := if m == l then .slice id off (h - l) (some 0) else .slice id (off + l * n) (h - l) (some (m - l))

def aSlice (P : Program) (S : AState) (t : TypeId) (x : AV) (lo hi mx : Option AV) : Option AV :=
  match x with
  | .lit (.string s) =>
    obind (flatOpt lo) fun l => obind (flatOpt hi) fun h => if mx.isNone then (pureRun P (Instr.sliceAt t (.string s) l h none)).map .lit else none
  | .lit (.slice none 0 0) =>
    match P.underlying t with
    | some (.slice elem) =>
      obind (sizeT P elem) fun _ => obind (bnd 0 lo) fun l => obind (bnd 0 hi) fun h => obind (bnd 0 mx) fun m =>
      if l == 0 && h == 0 && m == 0 && (mx.isNone || hi.isSome) then some (.lit (.slice none 0 0)) else none
    | _ => none
  | .slice id off len cap =>
    match P.underlying t with
    | some (.slice elem) =>
      obind (sizeT P elem) fun n =>
      obind (bnd 0 lo) fun l => obind (bnd len hi) fun h =>
      (match cap with
      | some c => obind (bnd c mx) fun m => if l ≤ h && h ≤ m && m ≤ c && (mx.isNone || hi.isSome) then some (subSlice id off l h m n) else none
      | none =>
        match mx with
        | none =>
          (match S.get id with
          | some (.row _ esz _ _) => if esz == n && n != 0 && l ≤ h && h ≤ len && (l == 0 || l < len) then some (.slice id (off + l * n) (h - l) none) else none
          | _ => none)
        | some mv => obind (natOf mv) fun m => if l ≤ h && h ≤ m && m ≤ len && hi.isSome then some (subSlice id off l h m n) else none)
    | _ => none
  | .ptr id off =>
    match P.underlying t with
    | some (.array k elem) =>
      obind (sizeT P elem) fun n =>
      obind (bnd 0 lo) fun l => obind (bnd k hi) fun h => obind (bnd k mx) fun m =>
      if l ≤ h && h ≤ m && m ≤ k && (mx.isNone || hi.isSome) then some (subSlice id off l h m n) else none
    | _ => none
  | _ => none

/-- the elements of a slice, as cells -/
def aCells (S : AState) (n : Nat) : AV → Option (List AV)
  | .lit (.slice none 0 0) => some []
  | .lit (.string s) => if n == 1 then some (s.data.toList.map fun b => .lit (.int .u8 b.toNat)) else none
  | .slice id off len _ =>
    if len == 0 then some [] else
    match S.get id with
    | some (.row cells _ _ _) => if off + len * n ≤ cells.length then some ((cells.drop off).take (len * n)) else none
    | _ => none
  | _ => none

def lenOf : AV → Option Nat
  | .lit (.slice none 0 0) => some 0
  | .lit (.string s) => some s.size
  | .slice _ _ len _ => some len
  | _ => none

/-- nothing is too great -/
def appSmall (ei : TypeInfo) (m : Nat) (sl : Option Nat) : Bool :=
  ei.size != 0 && decide (ei.bytes ≤ 4096) && decide (m ≤ 1000000) && (match sl with | some l => decide (l ≤ 1000000) | none => false) &&
    (match ei.zero with | some z => z.cells.size == ei.size | none => false)

def aAppend (P : Program) (S : AState) (argTypes : Array TypeId) (s x : AV) : R :=
  match argTypes[0]?, argTypes[1]? with
  | some st, some xt =>
    match P.underlying st, P.underlying xt with
    | some (.slice elem), some xd =>
      (match xd with
      | .int _ => none
      | _ =>
        obind (P.info? elem) fun ei =>
        let n := ei.size
        obind (lenOf x) fun m =>
        if appSmall ei m (lenOf s) then
        (match s with
        | .lit (.slice none 0 0) =>
          if m == 0 then ret S s else
          obind (aCells S n x) fun new => obind (aNewRow S new n elem false) fun (id, S') => ret S' (.slice id 0 m none)
        | .slice id off len cap =>
          (match cap with
          | some c =>
            if len + m ≤ c then
              obind (aCells S n x) fun new =>
              match S.get id with
              | some (.row cells esz el ex) =>
                if off + (len + m) * n ≤ cells.length && allOne new then ret (S.put id (.row (listSet cells (off + len * n) new) esz el ex)) (.slice id off (len + m) cap) else none
              | _ => none
            else
              obind (aCells S n s) fun old => obind (aCells S n x) fun new =>
              obind (aNewRow S (old ++ new) n elem false) fun (id', S') => ret S' (.slice id' 0 (len + m) none)
          | none =>
            if m == 0 then ret S s else
            obind (aCells S n s) fun old => obind (aCells S n x) fun new =>
            match S.get id with
            | some (.row _ esz el _) =>
              if esz == n && el == elem && off % n == 0 then
              obind (aNewRow (S.kill id) (old ++ new) n elem false) fun (id', S') => ret S' (.slice id' 0 (len + m) none)
              else none
            | _ => none)
        | _ => none) else none)
    | _, _ => none
  | _, _ => none

def aCopy (P : Program) (S : AState) (argTypes : Array TypeId) (d s : AV) : R :=
  match argTypes[0]? with
  | some dt =>
    match P.underlying dt with
    | some (.slice elem) =>
      obind (sizeT P elem) fun n => obind (lenOf s) fun sl =>
      (match d with
      | .lit (.slice none 0 0) => ret S (.lit (.int .i64 (.ofNat 0)))
      | .slice id off dl _ =>
        if Nat.min sl dl == 0 then ret S (.lit (.int .i64 (.ofNat 0))) else
        obind (aCells S n s) fun src =>
        (match S.get id with
        | some (.row cells esz el ex) =>
          if off + Nat.min sl dl * n ≤ cells.length && allOne (src.take (Nat.min sl dl * n)) then
            ret (S.put id (.row (listSet cells off (src.take (Nat.min sl dl * n))) esz el ex)) (.lit (.int .i64 (.ofNat (Nat.min sl dl)))) else none
        | _ => none)
      | _ => none)
    | _ => none
  | none => none

def litB (b : Bool) : AV := .lit (.bool b)

/-- whether two values are equal, where it is known -/
def aEq (P : Program) (t : TypeId) (x y : AV) : Option Bool :=
  match P.underlying t, x, y with
  | some (.pointer e), .ptr i a, .ptr j b => if i == j then obind (sizeT P e) fun n => if n != 0 then some (a == b) else none else none
  | some (.pointer _), .ptr _ _, .lit (.pointer none) => some false
  | some (.pointer _), .lit (.pointer none), .ptr _ _ => some false
  | some (.slice _), .slice _ _ _ _, .lit (.slice none _ _) => some false
  | some (.slice _), .lit (.slice none _ _), .slice _ _ _ _ => some false
  | some (.map _ _), .map _, .lit (.map none) => some false
  | some (.map _ _), .lit (.map none), .map _ => some false
  | some (.func _ _ _), .func _ _ _, .lit .nilFunc => some false
  | some (.func _ _ _), .lit .nilFunc, .func _ _ _ => some false
  | some (.interface _), .iface _ _, .lit .nilIface => some false
  | some (.interface _), .lit .nilIface, .iface _ _ => some false
  | _, _, _ => none

def aBinOp (P : Program) (op : BinOp) (t : TypeId) (ox oy : Operand) (x y : AV) : Option AV :=
  match x.flat, y.flat with
  | some a, some b => (pureRun P (do eqGuard op t ox oy a b; binOp op t a b)).map .lit
  | _, _ =>
    match op with
    | .eql => (aEq P t x y).map litB
    | .neq => (aEq P t x y).map fun b => litB (!b)
    | _ => none

def aConvert (P : Program) (S : AState) (src dst : TypeId) (x : AV) : R :=
  match P.underlying src, P.underlying dst, x with
  | some _, some (.slice e), .lit (.string s) =>
    match P.underlying e with
    | some (.int .u8) => obind (aNewRow S (s.data.toList.map fun b => .lit (.int .u8 b.toNat)) 1 e false) fun (id, S') => ret S' (.slice id 0 s.size none)
    | _ => none
  | some (.slice e), some .string, .slice _ _ len _ =>
    match P.underlying e with
    | some (.int .u8) =>
      if len > 1000000 then none else obind (aCells S 1 x) fun cs => obind (flatList cs) fun vs =>
      obind (bytesFrom vs) fun bs => ret S (.lit (.string ⟨bs.toArray⟩))
    | _ => none
  | some (.pointer t), some .unsafePointer, .ptr id off =>
    match S.get id with
    | some (.row cells _ _ _) => obind (sizeT P t) fun n => if n != 0 && off < cells.length then ret S x else none
    | _ => none
  | some .unsafePointer, some (.pointer u), .ptr id off =>
    match S.get id with
    | some (.row cells _ el true) => obind (sizeT P u) fun n => if n != 0 && liesAt P P.depth el (cells.length / P.cellsOf el) off u 1 then ret S x else none
    | _ => none
  | _, _, .lit v => obind (pureRun P (convert src dst v)) fun u => ret S (.lit u)
  | _, _, _ => none
where
  bytesFrom : List Value → Option (List UInt8)
    | [] => some []
    | .int .u8 n :: r => match bytesFrom r with | some l => some (UInt8.ofNat n.toNat :: l) | none => none
    | _ => none

/-- a map's entries -/
def aEntries (S : AState) : AV → Option (List (AV × AV))
  | .lit (.map none) => some []
  | .map id => match S.get id with | some (.map es) => some es | _ => none
  | _ => none

/-- are two keys the same? -/
def keyEq : Value → Value → Option Bool
  | .int k a, .int k' b => if k = k' then some (a == b) else none
  | .string a, .string b => some (a == b)
  | .bool a, .bool b => some (a == b)
  | .agg a, .agg b =>
    match a.toList, b.toList with
    | [.int k x, .int l y], [.int k' x', .int l' y'] => if k = k' ∧ l = l' then some (x == x' && y == y') else none
    | _, _ => none
  | _, _ => none

def findE (k : Value) : List (AV × AV) → Option (Option AV)
  | [] => some none
  | (c, v) :: r =>
    match c.flat with
    | some k' =>
      match keyEq k k', findE k r with
      | some true, some _ => some (some v)
      | some false, some x => some x
      | _, _ => none
    | none => none

def setE (k : Value) (c v : AV) : List (AV × AV) → List (AV × AV)
  | [] => [(c, v)]
  | (c', u) :: r =>
    match c'.flat with
    | some k' => match keyEq k k' with | some true => (c, v) :: r | _ => (c', u) :: setE k c v r
    | none => (c', u) :: setE k c v r

/-- a key's type that is taken in: does a key fit it? -/
def keyOk (P : Program) (t : TypeId) (k : Value) : Bool :=
  match P.underlying t, k with
  | some (.int _), .int _ _ => true
  | some .string, .string _ => true
  | some .bool, .bool _ => true
  | some (.array 2 e), .agg a =>
    match P.underlying e, sizeT P e, a.toList with
    | some (.int k'), some 1, [.int k _, .int l _] => k == k' && l == k'
    | _, _, _ => false
  | _, _ => false

def aLookup (P : Program) (S : AState) (t : TypeId) (m k : AV) (ok : Bool) : Option AV :=
  match P.underlying t with
  | some (.map kt et) =>
    obind (aEntries S m) fun es => obind k.flat fun kv =>
    if keyOk P kt kv then
      obind (findE kv es) fun r =>
      match r with
      | some v => some (if ok then .tuple [v, litB true] else v)
      | none => obind (zeroT P et) fun z => some (if ok then .tuple [z, litB false] else z)
    else none
  | _ => none

def aMapUpdate (P : Program) (S : AState) (t : TypeId) (m k v : AV) : Option AState :=
  match P.underlying t, m with
  | some (.map kt _), .map id =>
    obind (aEntries S m) fun es => obind k.flat fun kv =>
    if keyOk P kt kv then obind (findE kv es) fun _ => some (S.put id (.map (setE kv k v es))) else none
  | _, _ => none

def aTypeAssert (P : Program) (x : AV) (asserted : TypeId) (ok : Bool) : Option AV :=
  match P.underlying asserted, x with
  | some (.interface _), _ => none
  | some _, .iface t v => if t = asserted then some (if ok then .tuple [v, litB true] else v) else if ok then obind (zeroT P asserted) fun z => some (.tuple [z, litB false]) else none
  | some _, .lit .nilIface => if ok then obind (zeroT P asserted) fun z => some (.tuple [z, litB false]) else none
  | _, _ => none

def bytesSmall (P : Program) (elem : TypeId) : Bool := match P.info? elem with | some i => decide (i.bytes ≤ 1000) | none => false

def aMakeSlice (P : Program) (S : AState) (t : TypeId) (l c : AV) : R :=
  match P.underlying t with
  | some (.slice elem) =>
    obind (natOf l) fun len => obind (natOf c) fun cap => obind (sizeT P elem) fun n => obind (zeroT P elem) fun z =>
    if len ≤ cap && cap ≤ 10000 && n ≠ 0 && z.cells.length == n && bytesSmall P elem then
      obind (aNewRow S (repeatCells z.cells cap) n elem true) fun (id, S') => ret S' (.slice id 0 len (some cap))
    else none
  | _ => none

/-- functions without a body that are taken in -/
inductive ExtK where
  | noEscape
  | indexByte
  | makeNoZero (params results : Array TypeId)
  | mapsClone

structure Env where
  P : Program
  ext : FuncId → Option ExtK

def aExtern (E : Env) (S : AState) (k : ExtK) (args : List AV) : R :=
  match k, args with
  | .noEscape, [x] => ret S x
  | .indexByte, [.lit b, .lit c] => obind (pureRun E.P (Extern.BytealgIndexByte.indexByte #[b, c])) fun v => ret S (.lit v)
  | .makeNoZero _ results, [.lit (.int .i64 (.ofNat n))] =>
    (match results[0]? with
    | some t =>
      match E.P.underlying t with
      | some (.slice elem) => if n ≤ 100000 then obind (aNewRow S [] 1 elem false) fun (id, S') => ret S' (.slice id 0 n none) else none
      | _ => none
    | none => none)
  | .mapsClone, [.iface t (.map id)] =>
    (match S.get id with
    | some (.map es) => obind (S.new (.map es)) fun (id', S') => ret S' (.iface t (.map id'))
    | _ => none)
  | _, _ => none

def aCallFunc (E : Env) (S : AState) (f : FuncId) (args : List AV) : R :=
  match E.P.funcs[f]? with
  | none => none
  | some fn => if fn.body.isNone then (match E.ext f with | some k => aExtern E S k args | none => none) else some (.enter f args, S)

/-- a function value: what is called, what stands ahead, what is captured -/
def aFuncOf : AV → Option (Fn × List AV × List AV)
  | .lit (.func fn first captured) => some (fn, first.toList.map .lit, captured.toList.map .lit)
  | .func fn first captured => some (fn, first, captured)
  | _ => none

def aCall (E : Env) (S : AState) (f : AV) (args : List AV) : R :=
  obind (aFuncOf f) fun (fn, first, captured) =>
  match fn with
  | .func g => aCallFunc E S g (first ++ args ++ captured)
  | _ => none

/-- the same, or a round of a loop -/
def aCallY (E : Env) (S : AState) (f : AV) (args : List AV) : R :=
  match f with
  | .yield id => some (.round id args, S)
  | _ => aCall E S f args

def allFlat : List AV → Option (List Value)
  | [] => some []
  | v :: r => match v.flat, allFlat r with | some a, some l => some (a :: l) | _, _ => none

def aBuiltin (E : Env) (S : AState) (b : Builtin) (argTypes : Array TypeId) (type : TypeId) (args : List AV) : R :=
  match b, args with
  | .append, [s, x] => if argTypes.size == 2 then aAppend E.P S argTypes s x else none
  | .copy, [d, s] => aCopy E.P S argTypes d s
  | .len, [.slice _ _ n _] =>
    (match argTypes[0]? with
    | some t => match E.P.underlying t with | some (.slice _) => ret S (.lit (.int .i64 n)) | _ => none
    | none => none)
  | .len, [.map id] =>
    (match argTypes[0]? with
    | some t => match E.P.underlying t, S.get id with | some (.map _ _), some (.map es) => ret S (.lit (.int .i64 es.length)) | _, _ => none
    | none => none)
  | .len, [.lit v] => obind (pureRun E.P (Builtin.len_ argTypes type #[v])) fun u => ret S (.lit u)
  | .cap, [.slice _ _ _ (some c)] =>
    (match argTypes[0]? with
    | some t => match E.P.underlying t with | some (.slice _) => ret S (.lit (.int .i64 c)) | _ => none
    | none => none)
  | .cap, [.lit v] => obind (pureRun E.P (Builtin.cap_ argTypes type #[v])) fun u => ret S (.lit u)
  | .unsafeSliceData, [.slice id off len _] => if len == 0 then none else ret S (.ptr id off)
  | .unsafeSliceData, [.lit (.slice none _ _)] => ret S (.lit (.pointer none))
  | .unsafeString, [.lit (.pointer none), .lit (.int .i64 (.ofNat 0))] => (match argTypes[0]? with | some _ => ret S (.lit (.string .empty)) | none => none)
  | .unsafeString, [.ptr id off, .lit (.int .i64 (.ofNat n))] =>
    (match argTypes[0]? with
    | some pt =>
      match E.P.underlying pt, S.get id with
      | some (.pointer e), some (.row cells _ el _) =>
        if n != 0 && n ≤ 100000 && e == el && off + n ≤ cells.length && E.P.cellsOf e == 1 then
          obind (flatList ((cells.drop off).take n)) fun vs => obind (aConvert.bytesFrom vs) fun bs => ret (S.kill id) (.lit (.string ⟨bs.toArray⟩))
        else none
      | _, _ => none
    | none => none)
  | .min, _ => obind (allFlat args) fun vs => obind (pureRun E.P (Builtin.min_ argTypes type vs.toArray)) fun u => ret S (.lit u)
  | .max, _ => obind (allFlat args) fun vs => obind (pureRun E.P (Builtin.max_ argTypes type vs.toArray)) fun u => ret S (.lit u)
  | _, _ => none

def evalParts (fr : AFr) : List (Nat × Operand) → List (Nat × AV)
  | [] => []
  | (i, x) :: r => (i, fr.eval x) :: evalParts fr r

def evalList (fr : AFr) : List Operand → List AV
  | [] => []
  | x :: r => fr.eval x :: evalList fr r

def val (S : AState) (x : Option AV) : R := match x with | some v => some (.val v, S) | none => none
def unit (x : Option AState) : R := match x with | some S => some (.val undefA, S) | none => none

def aop (E : Env) (fr : AFr) (S : AState) (o : Oper) : R :=
  match o.op with
  | .move x => ret S (fr.eval x)
  | .assign x => ret S (fr.eval x)
  | .pick c a b => match fr.eval c with | .lit (.bool t) => ret S (if t then fr.eval a else fr.eval b) | _ => none
  | .alloc t => obind (zeroT E.P t) fun z => obind (aNewRow S z.cells (z.cells.length) t true) fun (id, S') => ret S' (.ptr id 0)
  | .box t x => let cs := (fr.eval x).cells; obind (aNewRow S cs cs.length t true) fun (id, S') => ret S' (.ptr id 0)
  | .build t ps => val S (aBuild E.P t (evalParts fr ps.toList))
  | .buildSlice t n ps => aBuildSlice E.P S t n (evalParts fr ps.toList)
  | .load t a => val S (aLoad E.P S t (fr.eval a))
  | .store t a v => unit (aStore E.P S t (fr.eval a) (fr.eval v))
  | .nilCheck x => match fr.eval x with | .ptr i a => ret S (.ptr i a) | _ => none
  | .binOp op t x y _ => val S (aBinOp E.P op t x y (fr.eval x) (fr.eval y))
  | .unOp op _ x => match fr.eval x with | .lit v => val S ((pureRun E.P (Op.unary op v)).map .lit) | _ => none
  | .convert s d x => aConvert E.P S s d (fr.eval x)
  | .makeInterface t x => match E.P.underlying t with | some (.interface _) => none | some _ => ret S (.iface t (fr.eval x)) | none => none
  | .makeFunc fn a b => ret S (.func fn (evalList fr a.toList) (evalList fr b.toList))
  | .makeMap _ r => match r with | none => obind (S.new (.map [])) fun (id, S') => ret S' (.map id) | some _ => none
  | .makeSlice t l c => aMakeSlice E.P S t (fr.eval l) (fr.eval c)
  | .slice t x lo hi mx => val S (aSlice E.P S t (fr.eval x) (lo.map fr.eval) (hi.map fr.eval) (mx.map fr.eval))
  | .fieldAddr t x f => val S (aFieldAddr E.P t (fr.eval x) f)
  | .field t x f => val S (aField E.P t (fr.eval x) f)
  | .indexAddr t x i => val S (aIndexAddr E.P t (fr.eval x) (fr.eval i))
  | .index t x i => val S (aIndex E.P t (fr.eval x) (fr.eval i))
  | .lookup t m k ok => val S (aLookup E.P S t (fr.eval m) (fr.eval k) ok)
  | .mapUpdate t m k v => unit (aMapUpdate E.P S t (fr.eval m) (fr.eval k) (fr.eval v))
  | .insert t m k v => unit (aMapUpdate E.P S t (fr.eval m) (fr.eval k) (fr.eval v))
  | .typeAssert x _ a ok => val S (aTypeAssert E.P (fr.eval x) a ok)
  | .extract x i => match fr.eval x with | .tuple vs => val S (vs[i]?) | .lit (.tuple vs) => val S ((vs[i]?).map .lit) | _ => none
  | .call c =>
    match c.callee with
    | .value f => aCallY E S (fr.eval f) (evalList fr c.args.toList)
    | .builtin b => aBuiltin E S b c.argTypes o.type (evalList fr c.args.toList)
    | .invoke _ _ => none
  | .defer c =>
    match c.callee with
    | .value f => obind (aFuncOf (fr.eval f)) fun (fn, first, captured) => some (.dfr { fn, captured, args := first ++ evalList fr c.args.toList }, S)
    | _ => none
  | _ => none

/-- how a code is left -/
inductive AExit where
  | normal
  | exit (id : Nat)
  | ret

abbrev CR := Option (AExit × AFr × AState)
/-- what is called: a function; a round of a loop -/
structure Recs where
  call : FuncId → List AV → AState → Option (AV × AState)
  round : Nat → List AV → AState → Option (AV × AState)
  dcall : FuncId → List AV → AState → Option AState
  plain : Bool

/-- one operation, and the call that it makes -/
def aoper (E : Env) (R : Recs) (o : Oper) (fr : AFr) (S : AState) : Option (AFr × AState) :=
  match aop E fr S o with
  | some (.val v, S') => some (fr.put o.dst v, S')
  | some (.enter f args, S') => match R.call f args S' with | some (v, S'') => some (fr.put o.dst v, S'') | none => none
  | some (.round id args, S') => match R.round id args S' with | some (v, S'') => some (fr.put o.dst v, S'') | none => none
  | some (.dfr d, S') => if R.plain then some ({ fr with defers := .call d :: fr.defers }.put o.dst undefA, S') else none
  | none => none

def aWanted (all : List Oper) (fr : AFr) (o : Oper) : Bool :=
  match o.guard with
  | none => true
  | some (j, want) =>
    match all[j]? with
    | some g => match g.dst with | some d => (match fr.get d with | .lit (.bool b) => b == want | _ => false) | none => false
    | none => false

def aops (E : Env) (R : Recs) (all : List Oper) : List Oper → AFr → AState → Option (AFr × AState)
  | [], fr, S => some (fr, S)
  | o :: r, fr, S =>
    if aWanted all fr o then
      match aoper E R o fr S with
      | some (fr', S') => aops E R all r fr' S'
      | none => none
    else aops E R all r (fr.put o.dst undefA) S

/-! ### a region that draws its order -/

def Value.sameB : Value → Value → Bool
  | .bool a, .bool b => a == b
  | .int k a, .int k' b => k == k' && a == b
  | .string a, .string b => a.data.toList == b.data.toList
  | .pointer a, .pointer b => a == b
  | .slice none 0 0, .slice none 0 0 => true
  | .map none, .map none => true
  | .nilFunc, .nilFunc => true
  | .nilIface, .nilIface => true
  | .func f a b, .func g c d => f == g && a.isEmpty && b.isEmpty && c.isEmpty && d.isEmpty
  | _, _ => false

def AV.same1 : AV → AV → Bool
  | .lit a, .lit b => Value.sameB a b
  | .ptr i a, .ptr j b => i == j && a == b
  | .slice i a l c, .slice j b m d => i == j && a == b && l == m && c == d
  | .map i, .map j => i == j
  | .iface t (.lit a), .iface u (.lit b) => t == u && Value.sameB a b
  | .iface t (.ptr i a), .iface u (.ptr j b) => t == u && i == j && a == b
  | .func f [] [], .func g [] [] => f == g
  | .func f [.ptr i a] [], .func g [.ptr j b] [] => f == g && i == j && a == b
  | .func f [] [.ptr i a], .func g [] [.ptr j b] => f == g && i == j && a == b
  | _, _ => false

def same1L : List AV → List AV → Bool
  | [], [] => true
  | x :: a, y :: b => AV.same1 x y && same1L a b
  | _, _ => false

def AV.same : AV → AV → Bool
  | .agg a, .agg b => same1L a b
  | .tuple a, .tuple b => same1L a b
  | x, y => AV.same1 x y

/-- is it an operation that makes something new, and asks nothing of the heap? -/
def isNew (o : Op) : Bool :=
  match o with
  | .alloc _ | .box _ _ | .buildSlice .. | .makeMap _ none => true
  | _ => false

/-- is it an operation that reads, or only reckons? -/
def isReader (o : Op) : Bool :=
  match o with
  | .move _ | .assign _ | .pick .. | .build .. | .load .. | .nilCheck _ | .binOp .. | .unOp .. | .makeInterface .. | .makeFunc .. | .slice .. | .fieldAddr .. | .field ..
  | .indexAddr .. | .index .. | .lookup .. | .typeAssert .. | .extract .. => true
  | .call c => match c.callee with
    | .builtin .len | .builtin .cap | .builtin .min | .builtin .max | .builtin .unsafeSliceData => true
    | _ => false
  | _ => false

/-- does what a reader tells hang on the heap? -/
def isLook (o : Op) : Bool :=
  match o with
  | .load .. | .lookup .. | .slice .. => true
  | .call c => match c.callee with
    | .builtin .len => true
    | _ => false
  | _ => false

structure DNew where
  ix : Nat
  id : Nat
  obj : AObj
  gone : Option Nat     -- at which writer it has gone into the heap

inductive DKind where
  | skip | new | read | look | write

/-- what is known of an operation of the region -/
structure Ent where
  ix : Nat
  op : Oper
  bef : List Nat
  tmps : List Tmp
  kind : DKind
  val : AV

structure DR where
  base : Nat                   -- the first number of the new things
  lim : Nat                    -- the first number behind theirs
  fr : AFr
  chain : List AState          -- the heap behind so many writers; the oldest first
  writers : List Nat           -- the oldest first
  news : List DNew
  ents : List Ent              -- the oldest first

def plus (S : AState) : List (Nat × AObj) → AState
  | [] => S
  | (id, o) :: r => (plus S r).put id o

def pendB (d : DNew) (c : Nat) : Bool := match d.gone with | some g => decide (c ≤ g) | none => true

/-- the new things that an operation sees, at the heap behind c writers -/
def seenNews (bef : List Nat) (c : Nat) : List DNew → List (Nat × AObj)
  | [] => []
  | d :: r => if bef.contains d.ix && pendB d c then (d.id, d.obj) :: seenNews bef c r else seenNews bef c r

def uni : List Nat → List Nat → List Nat
  | [], l => l
  | x :: r, l => if l.contains x then uni r l else uni r (x :: l)

/-- those ahead of an operation: what it is directly behind, and theirs -/
def befAll (ents : List Ent) : List Edge → Option (List Nat)
  | [] => some []
  | e :: r =>
    match befAll ents r with
    | none => none
    | some l => if Region.binds .any e then (match ents[e.on]? with | some x => some (uni (e.on :: x.bef) l) | none => none) else some l

def operTmps : List Operand → List Tmp
  | [] => []
  | .tmp t :: r => t :: operTmps r
  | _ :: r => operTmps r

def guardTmps (all : List Oper) (o : Oper) : List Tmp :=
  match o.guard with
  | none => []
  | some (j, _) => match all[j]? with | some g => (match g.dst with | some d => [d] | none => []) | none => []

/-- what an operation looks at is written by what is ahead of it, or by nothing here; what it writes is its own -/
def tmpsOk (bef looksAt : List Nat) (dst : Option Tmp) (ents : List Ent) : Bool :=
  (ents.all fun e => match e.op.dst with | some d => !looksAt.contains d || bef.contains e.ix | none => true) &&
  (match dst with
  | some d => !looksAt.contains d && (ents.all fun e => !e.tmps.contains d && e.op.dst != some d)
  | none => true)

/-- a new thing: what it is, and what tells it -/
def newThing (E : Env) (fr : AFr) (o : Oper) (n : Nat) : Option (AV × AObj) :=
  match aop E fr { heap := .nil, next := n } o with
  | some (.val v, S') => match S'.get n with | some x => some (v, x) | none => none
  | _ => none

def countNew : List Oper → Nat
  | [] => 0
  | o :: r => (if isNew o.op then 1 else 0) + countNew r

def markGone (bef : List Nat) (c : Nat) : List DNew → List DNew
  | [] => []
  | d :: r => (if bef.contains d.ix && d.gone.isNone then { d with gone := some c } else d) :: markGone bef c r

/-- does a reader tell the same at a state? -/
def lookSame (E : Env) (fr : AFr) (S : AState) (o : Oper) (v : AV) : Bool :=
  match aop E fr S o with
  | some (.val u, _) => AV.same u v
  | _ => false

/-- at each heap of the row but the last (the first: behind c writers) behind which no writer is ahead of the reader -/
def lookAll (E : Env) (fr : AFr) (o : Oper) (v : AV) (bef : List Nat) (news : List DNew) : List AState → List Nat → Nat → Bool
  | [], _, _ => true
  | [_], _, _ => true
  | S :: r, ws, c => ((ws.any fun i => bef.contains i) || lookSame E fr (plus S (seenNews bef c news)) o v) && lookAll E fr o v bef news r ws.tail (c + 1)

/-- is it an operation that may change the heap, and does no more? -/
def isWriter (o : Op) : Bool :=
  match o with
  | .store .. | .mapUpdate .. | .insert .. | .convert .. | .makeSlice .. => true
  | .call c => match c.callee with
    | .value _ => true
    | .builtin .append | .builtin .copy | .builtin .unsafeString => true
    | _ => false
  | _ => false

/-- one operation, and the call that it makes: the value -/
def aoperV (E : Env) (R : Recs) (o : Oper) (fr : AFr) (S : AState) : Option (AV × AState) :=
  match aop E fr S o with
  | some (.val v, S') => some (v, S')
  | some (.enter f args, S') => R.call f args S'
  | some (.round id args, S') => R.round id args S'
  | _ => none

def isLookK : DKind → Bool
  | .look => true
  | _ => false

def dstep (E : Env) (R : Recs) (all : List Oper) (k : Nat) (o : Oper) (D : DR) : Option DR :=
  match befAll D.ents o.after.toList with
  | none => none
  | some bef =>
    let looksAt := operTmps o.op.operands.toList ++ guardTmps all o
    if tmpsOk bef looksAt o.dst D.ents then
      let c := D.writers.length
      if aWanted all D.fr o then
        if isNew o.op then
          match newThing E D.fr o (D.base + D.news.length) with
          | some (v, x) =>
            if decide (D.base + D.news.length < D.lim) && D.chain.all fun S => (S.get (D.base + D.news.length)).isNone then
              some { D with fr := D.fr.put o.dst v, news := { ix := k, id := D.base + D.news.length, obj := x, gone := none } :: D.news, ents := D.ents ++ [{ ix := k, op := o, bef, tmps := looksAt, kind := .new, val := v }] }
            else none
          | none => none
        else match D.chain[c]? with
        | none => none
        | some S =>
        if isReader o.op then
          match aop E D.fr (plus S (seenNews bef c D.news)) o with
          | some (.val v, _) =>
            if isLook o.op then
              if lookAll E D.fr o v bef D.news D.chain D.writers 0 then
                some { D with fr := D.fr.put o.dst v, ents := D.ents ++ [{ ix := k, op := o, bef, tmps := looksAt, kind := .look, val := v }] }
              else none
            else some { D with fr := D.fr.put o.dst v, ents := D.ents ++ [{ ix := k, op := o, bef, tmps := looksAt, kind := .read, val := v }] }
          | _ => none
        else
          if isWriter o.op && D.writers.all fun i => bef.contains i then
            match aoperV E R o D.fr (plus S (seenNews bef c D.news)) with
            | some (v, S') =>
              let news' := markGone bef c D.news
              if (news'.all fun d => d.gone.isSome || (S'.get d.id).isNone) && (D.ents.all fun l => !isLookK l.kind || bef.contains l.ix || lookSame E D.fr (plus S' (seenNews l.bef (c + 1) news')) l.op l.val) then
                some { D with fr := D.fr.put o.dst v, chain := D.chain ++ [S'], news := news', writers := D.writers ++ [k], ents := D.ents ++ [{ ix := k, op := o, bef, tmps := looksAt, kind := .write, val := v }] }
              else none
            | none => none
          else none
      else some { D with fr := D.fr.put o.dst undefA, ents := D.ents ++ [{ ix := k, op := o, bef, tmps := looksAt, kind := .skip, val := undefA }] }
    else none

def dops (E : Env) (R : Recs) (all : List Oper) : Nat → List Oper → DR → Option DR
  | _, [], D => some D
  | k, o :: r, D => match dstep E R all k o D with | some D' => dops E R all (k + 1) r D' | none => none

def adrawC (E : Env) (R : Recs) (all : List Oper) (fr : AFr) (S : AState) : Option (AFr × AState) :=
  match dops E R all 0 all { base := S.next, lim := S.next + countNew all, fr, chain := [{ S with next := S.next + countNew all }], news := [], writers := [], ents := [] } with
  | some D => match D.chain[D.writers.length]? with
    | some S' => some (D.fr, plus S' (seenNews (List.range all.length) D.writers.length D.news))
    | none => none
  | none => none

/-! ### a region that lays one map, and puts entries into it, in whatever order -/
structure MIns where
  ix : Nat
  key : Value
  k : AV
  v : AV

structure MR where
  fr : AFr
  ents : List Ent
  made : Option Nat
  ins : List MIns

def apartKeys (kv : Value) : List MIns → Bool
  | [] => true
  | m :: r => (match keyEq kv m.key, keyEq m.key kv with | some false, some false => true | _, _ => false) && apartKeys kv r

def mstep (E : Env) (all : List Oper) (id : Nat) (k : Nat) (o : Oper) (M : MR) : Option MR :=
  match befAll M.ents o.after.toList with
  | none => none
  | some bef =>
    if tmpsOk bef (operTmps o.op.operands.toList ++ guardTmps all o) o.dst M.ents && o.guard.isNone then
      match o.op with
      | .makeMap _ none =>
        (match M.made with
        | none => some { fr := M.fr.put o.dst (.map id), ents := M.ents ++ [{ ix := k, op := o, bef, tmps := operTmps o.op.operands.toList ++ guardTmps all o, kind := .new, val := .map id }], made := some k, ins := M.ins }
        | some _ => none)
      | .insert t m kx vx =>
        (match M.made, M.fr.eval m, E.P.underlying t with
        | some i0, .map j, some (.map kt _) =>
          obind (M.fr.eval kx).flat fun kv =>
          if j == id && bef.contains i0 && keyOk E.P kt kv && apartKeys kv M.ins then
            some { fr := M.fr.put o.dst undefA, ents := M.ents ++ [{ ix := k, op := o, bef, tmps := operTmps o.op.operands.toList ++ guardTmps all o, kind := .write, val := undefA }], made := M.made,
                   ins := M.ins ++ [{ ix := k, key := kv, k := M.fr.eval kx, v := M.fr.eval vx }] }
          else none
        | _, _, _ => none)
      | _ =>
        if isReader o.op && !isLook o.op then
          match aop E M.fr { heap := .nil, next := 0 } o with
          | some (.val v, _) => some { M with fr := M.fr.put o.dst v, ents := M.ents ++ [{ ix := k, op := o, bef, tmps := operTmps o.op.operands.toList ++ guardTmps all o, kind := .read, val := v }] }
          | _ => none
        else none
    else none

def mops (E : Env) (all : List Oper) (id : Nat) : Nat → List Oper → MR → Option MR
  | _, [], M => some M
  | k, o :: r, M => match mstep E all id k o M with | some M' => mops E all id (k + 1) r M' | none => none

def insEntries (l : List MIns) : List (AV × AV) := l.map fun m => (m.k, m.v)

def adrawM (E : Env) (all : List Oper) (fr : AFr) (S : AState) : Option (AFr × AState) :=
  match mops E all S.next 0 all { fr, ents := [], made := none, ins := [] } with
  | some M => match M.made with
    | some _ => obind (S.new (.map (insEntries M.ins))) fun (_, S') => some (M.fr, S')
    | none => none
  | none => none

def isInsert (o : Oper) : Bool := match o.op with | .insert .. => true | _ => false

def adraw (E : Env) (R : Recs) (all : List Oper) (fr : AFr) (S : AState) : Option (AFr × AState) :=
  if all.any isInsert then adrawM E all fr S else adrawC E R all fr S

/-- a loop's rounds -/
def arounds (body : AFr → AState → CR) : Nat → AFr → AState → CR
  | 0, _, _ => none
  | n + 1, fr, S =>
    match body fr S with
    | some (.normal, fr', S') => arounds body n fr' S'
    | r => r

/-- the loop's end: what is done next -/
def aendLoop (S : AState) (id : Nat) : Option (AExit × AState) :=
  match S.get id with
  | some (.loop st pend tmps size params assign body dblk) =>
    if st == .busy then none else
    let S' := S.put id (.loop .exhausted pend tmps size params assign body dblk)
    match pend with
    | none => some (.normal, S')
    | some .ret => some (.ret, S')
    | some (.exit k) => some (.exit k, S')
    | _ => none
  | _ => none

def acode (E : Env) (R : Recs) (rnd : Option Nat) (fuel : Nat) : Code → AFr → AState → CR
  | .skip, fr, S => some (.normal, fr, S)
  | .label _, fr, S => some (.normal, fr, S)
  | .region _ ops draw, fr, S =>
    match (if draw then adraw E R ops.toList fr S else aops E R ops.toList ops.toList fr S) with
    | some (fr', S') => some (.normal, fr', S')
    | none => none
  | .seq a b, fr, S =>
    match acode E R rnd fuel a fr S with
    | some (.normal, fr', S') => acode E R rnd fuel b fr' S'
    | r => r
  | .cond c a b, fr, S =>
    match fr.eval c with
    | .lit (.bool true) => acode E R rnd fuel a fr S
    | .lit (.bool false) => acode E R rnd fuel b fr S
    | _ => none
  | .block id b, fr, S =>
    match acode E R rnd fuel b fr S with
    | some (.exit i, fr', S') => if i == id then some (.normal, fr', S') else some (.exit i, fr', S')
    | r => r
  | .loop b, fr, S => arounds (fun fr S => acode E R rnd fuel b fr S) fuel fr S
  | .exit id, fr, S => some (.exit id, fr, S)
  | .scope b, fr, S => acode E R rnd fuel b fr S
  | .ret, fr, S => some (.ret, fr, S)
  | .goto _, _, _ => none
  | .rangeFunc f params assign body, fr, S =>
    match (match rnd with
      | none => obind (S.new .deferred) fun (d, S1) => some ([ADef.mark d], d, S1)
      | some l => match S.get l with | some (.loop _ _ _ _ _ _ _ d) => some ([], d, S) | _ => none) with
    | some (marks, d, S1) =>
      match S1.new (.loop .ready none fr.tmps fr.size params.toList assign body d) with
      | some (id, S2) =>
        match aCall E S2 (fr.eval f) [.yield id] with
        | some (.enter g args, S3) =>
          match R.call g args S3 with
          | some (_, S4) =>
            match aendLoop S4 id with
            | some (e, S5) => some (e, { fr with defers := marks ++ fr.defers }, S5)
            | none => none
          | none => none
        | _ => none
      | none => none
    | none => none
  | .refuse _, _, _ => none

def aresult (E : Env) (fr : AFr) (S : AState) : ResultVar → Option AV
  | .tmp t => some (fr.get t)
  | .cell a t => aLoad E.P S t (fr.get a)

def aresults (E : Env) (fr : AFr) (S : AState) : List ResultVar → Option (List AV)
  | [] => some []
  | r :: rs => obind (aresult E fr S r) fun v => obind (aresults E fr S rs) fun vs => some (v :: vs)

def pack : List AV → AV
  | [v] => v
  | vs => .tuple vs

def adefers (E : Env) (R : Recs) : List ADef → AState → Option AState
  | [], S => some S
  | .mark id :: r, S => match S.get id with | some .deferred => adefers E R r (S.kill id) | _ => none
  | .call d :: r, S =>
    match d.fn with
    | .func g => match R.dcall g (d.args ++ d.captured) S with | some S' => adefers E R r S' | none => none
    | _ => none

def putArgs : Nat → List AV → T AV → T AV
  | _, [], t => t
  | i, v :: r, t => putArgs (i + 1) r (T.put FD t i (.leaf v))

def putParams : List Tmp → List AV → Nat → T AV → T AV
  | p :: ps, v :: vs, size, t => putParams ps vs size (if p < size then T.put FD t p (.leaf v) else t)
  | _, _, _, t => t

abbrev Hook := FuncId → List AV → AState → Option (Option (AV × AState))

/-- a body, from its arguments to its end -/
def abody (E : Env) (fuel : Nat) (R : Recs) (fn : Func) (c : Code) (args : List AV) (S : AState) : Option (AFr × AState) :=
  if max fn.ntmps args.length ≤ 512 then
    match acode E R none fuel c { tmps := putArgs 0 args .nil, size := max fn.ntmps args.length, defers := [] } S with
    | some (.normal, fr, S') => some (fr, S')
    | some (.ret, fr, S') => some (fr, S')
    | _ => none
  else none

/-- a call: hooks ahead of bodies -/
def acallF (E : Env) (hook : Hook) (fuel : Nat) (R : Recs) (f : FuncId) (args : List AV) (S : AState) : Option (AV × AState) :=
  match hook f args S with
  | some r => r
  | none =>
  match E.P.funcs[f]? with
  | none => none
  | some fn =>
    match fn.body with
    | none => none
    | some c =>
      match abody E fuel R fn c args S with
      | some (fr, S') =>
        match adefers E R fr.defers S' with
        | some S'' => obind (aresults E fr S'' fn.results.toList) fun vs => some (pack vs, S'')
        | none => none
      | none => none

/-- a deferred call -/
def adcallF (E : Env) (fuel : Nat) (R : Recs) (f : FuncId) (args : List AV) (S : AState) : Option AState :=
  match E.P.funcs[f]? with
  | none => none
  | some fn =>
    match fn.body with
    | none => none
    | some c =>
      match abody E fuel R fn c args S with
      | some (fr, S') => if fr.defers.isEmpty then obind (aresults E fr S' fn.results.toList) fun _ => some S' else none
      | none => none

/-- a round of a loop -/
def aroundF (E : Env) (fuel : Nat) (R : Recs) (l : Nat) (args : List AV) (S : AState) : Option (AV × AState) :=
  match S.get l with
  | some (.loop _ _ tmps size params assign body _) =>
    if args.length == params.length then
      match acode E { R with plain := false } (some l) fuel assign { tmps := putParams params args size tmps, size, defers := [] } S with
      | some (.normal, fr1, S1) =>
        match S1.get l with
        | some (.loop .ready pend1 t1 s1 p1 a1 b1 d1) =>
          match acode E { R with plain := false } (some l) fuel body fr1 (S1.put l (.loop .busy pend1 t1 s1 p1 a1 b1 d1)) with
          | some (e, _, S3) =>
            match S3.get l with
            | some (.loop _ _ t3 s3 p3 a3 b3 d3) =>
              match e with
              | .normal => some (litB true, S3.put l (.loop .ready none t3 s3 p3 a3 b3 d3))
              | .ret => some (litB false, S3.put l (.loop .done (some .ret) t3 s3 p3 a3 b3 d3))
              | .exit k => some (litB false, S3.put l (.loop .done (some (.exit k)) t3 s3 p3 a3 b3 d3))
            | _ => none
          | none => none
        | _ => none
      | _ => none
    else none
  | _ => none

def arecs (E : Env) (hook : Hook) (fuel : Nat) : Nat → Recs
  | 0 => { call := fun _ _ _ => none, round := fun _ _ _ => none, dcall := fun _ _ _ => none, plain := true }
  | n + 1 => { call := acallF E hook fuel (arecs E hook fuel n), round := aroundF E fuel (arecs E hook fuel n), dcall := adcallF E fuel (arecs E hook fuel n), plain := true }

end
end Go.AM
