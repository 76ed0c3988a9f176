/- Operations in compact form, what the quiet ones come to, and that they do. Own work. -/
import Derived.Test.YtnhkcalanpepoaaSb
import Derived.Test.YtnhkcalanpepoaaSea
import Derived.Laws.Sem
import Derived.Laws.Entries
import Derived.Laws.Cells
import Derived.Laws.Slices
import Derived.Laws.BytesArg
namespace Go.Shade
open Go

inductive X where
  | t (n : Nat)
  | c (a : AV)
  | g (G : Nat)

def X.ev (Γ : Globs) (env : Nat → AV) : X → AV
  | .t n => env n
  | .c a => a
  | .g G => match Γ G with
    | some cs => .cptr cs
    | none => .junk

/-- Operations that came later: of their operands' values alone. -/
inductive EOp where
  | mslice (sz len : Nat) (lo hi : Bool)
  | copy (sz : Nat)
  | mks (sz bytes : Nat) (zero : List PV) (own : Bool)
  | mkz
  | slice3 (sz : Nat) (lo : Bool)
  | look (z : Value)
  | fnil (neg : Bool)
  | tassert (t : TypeId) (z : List PV)
  | sslice (lo hi : Bool)
  | toBys
  | bconv
  | feq (neg : Bool)

inductive COp where
  | ext (e : EOp) (xs : List X)
  | mv (x : X)
  | pick (c a b : X)
  | bin (op : BinOp) (x y : X)
  | beq (neg : Bool) (x y : X)
  | eqs (neg : Bool) (ks : List Nat) (x y : X)
  | isnil (neg : Bool) (x : X)
  | un (op : UnOp) (x : X)
  | toInt (k : IntKind) (x : X)
  | toStr (x : X)
  | strId (x : X)
  | build (zero : List PV) (parts : List (Nat × Nat × X))
  | field (agg : Bool) (off n : Nat) (x : X)
  | index (agg : Bool) (len sz : Nat) (x i : X)
  | sindex (x i : X)
  | extract (i : Nat) (x : X)
  | len (x : X)
  | slen (x : X)
  | minmax (mx : Bool) (x y : X)
  | slice (sz : Nat) (x : X) (lo hi : Option X)
  | faddr (off : Nat) (x : X)
  | iaddrS (sz : Nat) (x i : X)
  | iaddrA (sz len : Nat) (x i : X)
  | mkfn (f : Fn) (first cap : List X)
  | mkif (t : TypeId) (x : X)
  | nilchk (x : X)
  | arrptr (n : Nat) (x : X)
  | load (agg : Bool) (n : Nat) (a : X)
  | store (n : Nat) (a x : X)
  | box (x : X)
  | alloc (zero : List PV)
  | bslice (sz len : Nat) (zero : List PV) (parts : List (Nat × X))
  | append (sz bytes : Nat) (zero : List PV) (s x : X)
  | aslice (sz len : Nat) (x : X) (lo hi : Option X)
  | call (f : X) (args : List X)
  | panic (x : X)

structure CO where
  dst : Option Nat
  op : COp
  guard : Option (Nat × Bool)

/-! ### From the model's operations -/
def AV.ofV : Value → AV
  | .agg cs => .agg (cs.toList.map fun v => .p (.s v))
  | v => .p (.s v)
def cX (N : Nat) : Operand → Option X
  | .tmp t => if t < N then some (.t t) else none
  | .const v => some (.c (AV.ofV v))
  | .global g => some (.g g)
  | .func f => some (.c (.fn (.func f) [] []))
def cXs (N : Nat) (l : List Operand) : Option (List X) := l.mapM (cX N)
def cXo (N : Nat) : Option Operand → Option (Option X)
  | none => some none
  | some x => (cX N x).map some
def isAggT (P : Program) (t : TypeId) : Bool := match P.underlying t with
  | some (.struct _) | some (.array _ _) => true
  | _ => false
def sizeT (P : Program) (t : TypeId) : Option Nat := match P.info? t, P.underlying t with
  | some i, some _ => some i.size
  | _, _ => none
def zeroT (P : Program) (t : TypeId) : Option (List PV) := (P.info? t).bind fun i => i.zero.map fun v => v.cells.toList.map PV.s
/-- '==' of structs and arrays of whole numbers, bools and strings. -/
def eqT (P : Program) (t : TypeId) : Option (List Nat) :=
  if isAggT P t && !P.eqGuardType P.depth t then eqK P 8 t else none

def cop (P : Program) (N : Nat) (o : Oper) : Option COp :=
  match o.op with
  | .move x | .assign x => do pure (.mv (← cX N x))
  | .pick c a b => do pure (.pick (← cX N c) (← cX N a) (← cX N b))
  | .binOp op t x y _ => do
    let x ← cX N x
    let y ← cX N y
    match op with
    | .eql | .neq => match P.underlying t with
      | some (.int _) | some .string => pure (.bin op x y)
      | some .bool => pure (.beq (op == .neq) x y)
      | some (.struct _) | some (.array _ _) => do pure (.eqs (op == .neq) (← eqT P t) x y)
      | _ => none
    | _ => pure (.bin op x y)
  | .unOp op _ x => do pure (.un op (← cX N x))
  | .convert src dst x => do
    let x ← cX N x
    match P.underlying src, P.underlying dst with
    | some (.int _), some (.int k) => pure (.toInt k x)
    | some (.slice e), some .string => if P.underlying e matches some (.int .u8) then pure (.toStr x) else none
    | some .string, some .string => pure (.strId x)
    | _, _ => none
  | .build t parts => do
    let zero ← zeroT P t
    match P.underlying t with
    | some (.struct fs) => do
      let ps ← parts.toList.mapM fun (i, x) => do
        let f ← fs[i]?
        pure (f.offset, ← sizeT P f.type, ← cX N x)
      if fs.toList.all fun f => (sizeT P f.type).isSome then pure (.build zero ps) else none
    | some (.array _ e) => do
      let sz ← sizeT P e
      let ps ← parts.toList.mapM fun (i, x) => do pure (i * sz, sz, ← cX N x)
      pure (.build zero ps)
    | _ => none
  | .field t x f => do
    let x ← cX N x
    match P.underlying t with
    | some (.struct fs) => do
      let f ← fs[f]?
      pure (.field (isAggT P f.type) f.offset (← sizeT P f.type) x)
    | _ => none
  | .index t x i => do
    let x ← cX N x
    let i ← cX N i
    match P.underlying t with
    | some (.array len e) => do pure (.index (isAggT P e) len (← sizeT P e) x i)
    | some .string => pure (.sindex x i)
    | _ => none
  | .extract x i => do pure (.extract i (← cX N x))
  | .slice t x lo hi none => do
    let x ← cX N x
    let lo ← cXo N lo
    let hi ← cXo N hi
    match P.underlying t with
    | some (.slice e) => do pure (.slice (← sizeT P e) x lo hi)
    | some (.array n e) => do pure (.aslice (← sizeT P e) n x lo hi)
    | _ => none
  | .fieldAddr t x f => do
    let x ← cX N x
    match P.underlying t with
    | some (.struct fs) => do
      let f ← fs[f]?
      let sz ← sizeT P f.type
      if sz = 0 then none else pure (.faddr f.offset x)
    | _ => none
  | .indexAddr t x i => do
    let x ← cX N x
    let i ← cX N i
    match P.underlying t with
    | some (.slice e) => do
      let sz ← sizeT P e
      if sz = 0 then none else pure (.iaddrS sz x i)
    | some (.array n e) => do pure (.iaddrA (← sizeT P e) n x i)
    | _ => none
  | .makeFunc fn first cap => do pure (.mkfn fn (← cXs N first.toList) (← cXs N cap.toList))
  | .makeInterface t x => do
    let x ← cX N x
    match P.underlying t with
    | some (.interface _) | none => none
    | _ => pure (.mkif t x)
  | .nilCheck x => do pure (.nilchk (← cX N x))
  | .sliceToArrayPointer t x => do
    let x ← cX N x
    match P.underlying t with
    | some (.array n _) => pure (.arrptr n x)
    | _ => none
  | .load t a => do pure (.load (isAggT P t) (← sizeT P t) (← cX N a))
  | .store t a x => do pure (.store (← sizeT P t) (← cX N a) (← cX N x))
  | .box _ x => do pure (.box (← cX N x))
  | .alloc t => do pure (.alloc (← zeroT P t))
  | .buildSlice t len parts => do
    match P.underlying t with
    | some (.slice e) => do
      let sz ← sizeT P e
      let zero ← zeroT P e
      if len * sz > 16777216 then none else
      let ps ← parts.toList.mapM fun (i, x) => do pure (i, ← cX N x)
      pure (.bslice sz len zero ps)
    | _ => none
  | .call { callee := .builtin b, args, argTypes } =>
    match b, args.toList, argTypes.toList with
    | .len, [x], [t] => do
      let x ← cX N x
      match P.underlying t with
      | some (.slice _) => pure (.len x)
      | some .string => pure (.slen x)
      | _ => none
    | .min, [x, y], _ => do pure (.minmax false (← cX N x) (← cX N y))
    | .max, [x, y], _ => do pure (.minmax true (← cX N x) (← cX N y))
    | .append, [s, x], [t, u] => do
      let s ← cX N s
      let x ← cX N x
      match P.underlying t with
      | some (.slice e) => do
        let i ← P.info? e
        match P.underlying u with
        | some (.slice _) | some .string => do pure (.append i.size i.bytes (← zeroT P e) s x)
        | _ => none
      | _ => none
    | _, _, _ => none
  | .call { callee := .value f, args, .. } => do pure (.call (← cX N f) (← cXs N args.toList))
  | .panic x => do pure (.panic (← cX N x))
  | _ => none

/-! ### From the model's operations: those that came later -/
def zeroV (P : Program) (t : TypeId) : Option Value := (P.info? t).bind fun i => i.zero
/-- Is it a function without a body that lays octets that are not noughts? -/
def isMkz (P : Program) (f : FuncId) : Bool := match P.funcs[f]? with
  | some fn => fn.name == "internal/bytealg.MakeNoZero" && fn.body.isNone && (match Extern.findNext fn with | none => true | _ => false) && (match fn.resultTypes[0]? with
    | some t => (match P.underlying t with
      | some (.slice _) => true
      | _ => false)
    | none => false)
  | none => false
def copX (P : Program) (N : Nat) (o : Oper) : Option COp :=
  match o.op with
  | .makeSlice t l c => match P.underlying t with
    | some (.slice e) => do
      let i ← P.info? e
      let l ← cX N l
      let c ← cX N c
      pure (.ext (.mks i.size i.bytes (← zeroT P e) false) [l, c])
    | _ => none
  | .slice t x lo hi mx => match P.underlying t, mx with
    | some (.slice e), some mx => match hi with
      | some hi => do
        let x ← cX N x
        let hi ← cX N hi
        let mx ← cX N mx
        let lo ← cXo N lo
        pure (.ext (.slice3 (← sizeT P e) lo.isSome) (x :: hi :: mx :: lo.toList))
      | none => none
    | some .string, none => do
        let x ← cX N x
        let lo ← cXo N lo
        let hi ← cXo N hi
        pure (.ext (.sslice lo.isSome hi.isSome) (x :: (lo.toList ++ hi.toList)))
    | _, _ => none
  | .lookup t x k false => match P.underlying t with
    | some (.map key elem) => match P.underlying key with
      | some (.int _) => do
        let x ← cX N x
        let k ← cX N k
        pure (.ext (.look (← zeroV P elem)) [x, k])
      | _ => none
    | _ => none
  | .typeAssert x _ t true => match P.underlying t with
    | some (.struct _) => match zeroV P t with
      | some (.agg cs) => do
        let x ← cX N x
        pure (.ext (.tassert t (cs.toList.map PV.s)) [x])
      | _ => none
    | _ => none
  | .binOp op t x (.const .nilFunc) _ => match op, P.underlying t with
    | .eql, some (.func _ _ _) => do pure (.ext (.fnil false) [← cX N x])
    | .neq, some (.func _ _ _) => do pure (.ext (.fnil true) [← cX N x])
    | _, _ => none
  | .binOp op t x y _ => match op, P.underlying t with
    | .eql, some (.float _) => do pure (.ext (.feq false) [← cX N x, ← cX N y])
    | .neq, some (.float _) => do pure (.ext (.feq true) [← cX N x, ← cX N y])
    | _, _ => none
  | .convert src dst x => match P.underlying src, P.underlying dst with
    | some .string, some (.slice e) => if P.underlying e matches some (.int .u8) then do pure (.ext .toBys [← cX N x]) else none
    | some (.slice e), some (.slice _) => if src = dst then (match P.underlying e with
      | some (.int .u8) => do pure (.ext .bconv [← cX N x])
      | _ => none) else none
    | _, _ => none
  | .call { callee := .builtin .copy, args, argTypes } => match args.toList, argTypes.toList with
    | [d, s], [dt, st] => match P.underlying dt with
      | some (.slice e) => match P.underlying st with
        | some (.slice _) | some .string => do
          let d ← cX N d
          let s ← cX N s
          pure (.ext (.copy (← sizeT P e)) [d, s])
        | _ => none
      | _ => none
    | _, _ => none
  | .call { callee := .value (.func f), args, .. } => match args.toList with
    | [n] => if isMkz P f then do pure (.ext .mkz [← cX N n]) else none
    | _ => none
  | _ => none
/-- What it is in the program's text. -/
def COp.er : COp → COp
  | .ext (.mslice sz ln false false) [x] => .aslice sz ln x none none
  | .ext (.mslice sz ln true false) [x, a] => .aslice sz ln x (some a) none
  | .ext (.mslice sz ln false true) [x, b] => .aslice sz ln x none (some b)
  | .ext (.mslice sz ln true true) [x, a, b] => .aslice sz ln x (some a) (some b)
  | .ext (.mks sz b z true) xs => .ext (.mks sz b z false) xs
  | c => c
def CO.er (o : CO) : CO := { o with op := o.op.er }

/-! ### What the quiet ones come to -/
def abin (op : BinOp) : Value → Value → Option Value
  | .int k a, .int k' b =>
    match op with
    | .shl => if b < 0 then none else some (.int k (k.wrap (a * 2 ^ (min b.toNat k.bits))))
    | .shr => if b < 0 then none else some (.int k (a.fdiv (2 ^ (min b.toNat k.bits))))
    | _ => if k ≠ k' then none else
      match op with
      | .add => some (.int k (k.wrap (a + b)))
      | .sub => some (.int k (k.wrap (a - b)))
      | .mul => some (.int k (k.wrap (a * b)))
      | .quo => if b = 0 then none else some (.int k (k.wrap (a.tdiv b)))
      | .rem => if b = 0 then none else some (.int k (a.tmod b))
      | .and => some (.int k (k.wrap (BitVec.ofInt k.bits a &&& BitVec.ofInt k.bits b).toNat))
      | .or => some (.int k (k.wrap (BitVec.ofInt k.bits a ||| BitVec.ofInt k.bits b).toNat))
      | .xor => some (.int k (k.wrap (BitVec.ofInt k.bits a ^^^ BitVec.ofInt k.bits b).toNat))
      | .andNot => some (.int k (k.wrap (BitVec.ofInt k.bits a &&& ~~~BitVec.ofInt k.bits b).toNat))
      | .eql => some (.bool (a == b))
      | .neq => some (.bool (a != b))
      | .lss => some (.bool (decide (a < b)))
      | .leq => some (.bool (decide (a ≤ b)))
      | .gtr => some (.bool (decide (a > b)))
      | .geq => some (.bool (decide (a ≥ b)))
      | _ => none
  | .string a, .string b =>
    match op with
    | .add => if a.size + b.size ≤ 281474976710656 then some (.string (a ++ b)) else none
    | .eql => some (.bool (a.toList == b.toList))
    | .neq => some (.bool !(a.toList == b.toList))
    | _ => none
  | _, _ => none
def aun (op : UnOp) : Value → Option Value
  | .bool b => match op with
    | .not => some (.bool !b)
    | _ => none
  | .int k n => match op with
    | .neg => some (.int k (k.wrap (0 - n)))
    | _ => none
  | _ => none

def AV.asSl (sz : Nat) : AV → Option (List (List PV))
  | .p (.sl sz' xs) => if sz' = sz then some xs else none
  | .own _ sz' xs => if sz' = sz then some xs else none
  | .p (.s (.slice none 0 0)) => some []
  | _ => none
def AV.lenOf : AV → Option Nat
  | .p (.sl _ xs) => some xs.length
  | .own _ _ xs => some xs.length
  | .p (.s (.slice none 0 0)) => some 0
  | .bsl _ _ _ n => some n
  | _ => none
def AV.asInt : AV → Option Int
  | .p (.s (.int _ n)) => some n
  | _ => none
def AV.asV : AV → Option Value
  | .p (.s v) => some v
  | _ => none
def byteOf : List PV → Option UInt8
  | [.s (.int .u8 n)] => if 0 ≤ n ∧ n < 256 then some (UInt8.ofNat n.toNat) else none
  | _ => none
def asBytes (xs : List (List PV)) : Option (List UInt8) := xs.mapM byteOf
/-- '==' cell by cell. -/
def eqAs : List Nat → List AV → List AV → Option Bool
  | [], [], [] => some true
  | k :: ks, a :: as, b :: bs => match a.asV, b.asV with
    | some x, some y => (eqV k x y).bind fun x => (eqAs ks as bs).map fun y => x && y
    | _, _ => none
  | _, _, _ => none
def eqsE (neg : Bool) (ks : List Nat) (a b : AV) : Option AV := match a, b with
  | .agg cs, .agg ds => (eqAs ks cs ds).map fun t => .p (.s (.bool (if neg then !t else t)))
  | _, _ => none
def AV.cells : AV → List AV
  | .agg cs => cs
  | a => [a]
def AV.oneCell : AV → Bool
  | .p (.s v) => v.oneCell'
  | .p (.sl _ _) | .own _ _ _ | .ptr _ _ | .cptr _ | .fn _ _ _ | .bsl _ _ _ _ | .cmap _ => true
  | _ => false
/-- A value with cells: one cell, or an aggregate. -/
def AV.celled (b : AV) : Bool := b.oneCell || match b with
  | .agg _ => true
  | _ => false
def fillA (cs : List AV) : List (Nat × List AV) → List AV
  | [] => cs
  | (off, l) :: r => fillA (cs.take off ++ l ++ cs.drop (off + l.length)) r
def subA (agg : Bool) (cs : List AV) (off n : Nat) : Option AV :=
  if agg then (if off + n ≤ cs.length then some (.agg ((cs.drop off).take n)) else none) else cs[off]?
def subP (agg : Bool) (cs : List PV) (n : Nat) : Option AV :=
  if agg then (if n ≤ cs.length then some (.agg ((cs.take n).map AV.p)) else none) else cs[0]?.map AV.p
def bounds (len : Nat) (lo hi : Option Int) : Option (Nat × Nat) :=
  let h := hi.getD len
  let l := lo.getD 0
  if 0 ≤ l ∧ l ≤ h ∧ h ≤ len then some (l.toNat, h.toNat) else none
def evO (Γ : Globs) (env : Nat → AV) : Option X → Option (Option Int)
  | none => some none
  | some x => (x.ev Γ env).asInt.map some

/-- A slice of a box, part of it; an element's place. -/
def bslO (sz : Nat) (a : AV) (lo hi : Option (Option Int)) : Option AV := match a with
  | .bsl b off s n => lo.bind fun lo => hi.bind fun hi => (bounds n lo hi).bind fun (l, h) => if s = sz ∧ (l = 0 ∨ l < n) then some (.bsl b (off + l * sz) sz (h - l)) else none
  | _ => none
def bslA (sz : Nat) (a : AV) (i : Option Int) : Option AV := match a, i with
  | .bsl b off s n, some i => if s = sz ∧ 0 ≤ i ∧ i < n then some (.ptr b (off + i.toNat * sz)) else none
  | _, _ => none
/-- A value of the model's as a function's value. -/
def AV.ofF : Value → AV
  | .func f x y => if x.size = 0 ∧ y.size = 0 then .fn f [] [] else .p (.s (.func f x y))
  | v => .p (.s v)
def keyIs (k : IntKind) : Value → Bool
  | .int j _ => decide (j = k)
  | _ => false
def findI (n : Int) : List (Value × Value) → Option Value
  | [] => none
  | (.int _ m, v) :: l => if m = n then some v else findI n l
  | _ :: l => findI n l
def lohi (lo hi : Bool) : List AV → Option (Option Int × Option Int)
  | [] => if !lo && !hi then some (none, none) else none
  | [a] => a.asInt.bind fun i => if lo && !hi then some (some i, none) else if !lo && hi then some (none, some i) else none
  | [a, b] => a.asInt.bind fun i => b.asInt.bind fun j => if lo && hi then some (some i, some j) else none
  | _ => none
def msliceE (sz ln : Nat) (lo hi : Bool) : List AV → Option AV
  | .ptr b off :: r => (lohi lo hi r).bind fun p => (bounds ln p.1 p.2).bind fun (l, h) => if (l = 0 ∨ l < ln) ∧ ln ≤ 281474976710656 then some (.bsl b (off + l * sz) sz (h - l)) else none
  | _ => none
def slice3E (sz : Nat) (lo : Bool) : List AV → Option AV
  | .bsl b off s n :: hi :: mx :: r => hi.asInt.bind fun h => mx.asInt.bind fun x => (lohi lo false r).bind fun p =>
      if s = sz ∧ 0 ≤ p.1.getD 0 ∧ p.1.getD 0 ≤ h ∧ h ≤ x ∧ x ≤ n ∧ (p.1.getD 0 = 0 ∨ p.1.getD 0 < x) then some (.bsl b (off + (p.1.getD 0).toNat * sz) sz (h - p.1.getD 0).toNat) else none
  | _ => none
def lookE (z : Value) : List AV → Option AV
  | [.cmap es, .p (.s (.int k n))] => if es.all (fun p => keyIs k p.1) then some (.ofF ((findI n es).getD z)) else none
  | _ => none
def fnilE (neg : Bool) : List AV → Option AV
  | [.fn _ _ _] => some (.bool neg)
  | [.p (.s .nilFunc)] => some (.bool !neg)
  | _ => none
def feqE (neg : Bool) : List AV → Option AV
  | [.p (.s (.float k a)), .p (.s (.float k' b))] => if k = k' then some (.bool (if neg then !(Op.floatEq k a b) else Op.floatEq k a b)) else none
  | _ => none
def tassertE (t : TypeId) (z : List PV) : List AV → Option AV
  | [.p (.s (.iface u (.agg cs)))] => if u = t then some (.tup [.agg (cs.toList.map fun v => .p (.s v)), .bool true]) else some (.tup [.agg (z.map AV.p), .bool false])
  | [.p (.s .nilIface)] => some (.tup [.agg (z.map AV.p), .bool false])
  | _ => none
def ssliceE (lo hi : Bool) : List AV → Option AV
  | .p (.s (.string s)) :: r => (lohi lo hi r).bind fun p => (bounds s.size p.1 p.2).map fun (l, h) => .p (.s (.string (s.extract l h)))
  | _ => none
def ePure : EOp → List AV → Option AV
  | .mslice sz ln lo hi, vs => msliceE sz ln lo hi vs
  | .slice3 sz lo, vs => slice3E sz lo vs
  | .look z, vs => lookE z vs
  | .fnil neg, vs => fnilE neg vs
  | .feq neg, vs => feqE neg vs
  | .tassert t z, vs => tassertE t z vs
  | .sslice lo hi, vs => ssliceE lo hi vs
  | _, _ => none

def cpure (Γ : Globs) (env : Nat → AV) : COp → Option AV
  | .mv x => some (x.ev Γ env)
  | .pick c a b => match c.ev Γ env with
    | .p (.s (.bool t)) => some (if t then a.ev Γ env else b.ev Γ env)
    | _ => none
  | .bin op x y => match x.ev Γ env, y.ev Γ env with
    | .p (.s v), .p (.s u) => (abin op v u).map fun v => .p (.s v)
    | _, _ => none
  | .beq neg x y => match x.ev Γ env, y.ev Γ env with
    | .p (.s (.bool a)), .p (.s (.bool b)) => some (.bool (if neg then !(a == b) else a == b))
    | _, _ => none
  | .eqs neg ks x y => eqsE neg ks (x.ev Γ env) (y.ev Γ env)
  | .un op x => match x.ev Γ env with
    | .p (.s v) => (aun op v).map fun v => .p (.s v)
    | _ => none
  | .toInt k x => match x.ev Γ env with
    | .p (.s (.int _ n)) => some (.int k (k.wrap n))
    | _ => none
  | .toStr x => ((x.ev Γ env).asSl 1).bind fun xs => (asBytes xs).map fun bs => .p (.s (.string ⟨bs.toArray⟩))
  | .strId x => match x.ev Γ env with
    | .p (.s (.string s)) => some (.p (.s (.string s)))
    | _ => none
  | .field agg off n x => match x.ev Γ env with
    | .agg cs => subA agg cs off n
    | _ => none
  | .index agg len sz x i => match x.ev Γ env, (i.ev Γ env).asInt with
    | .agg cs, some i => if 0 ≤ i ∧ i < len then subA agg cs (i.toNat * sz) sz else none
    | _, _ => none
  | .sindex x i => match x.ev Γ env, (i.ev Γ env).asInt with
    | .p (.s (.string s)), some i => if 0 ≤ i ∧ i < s.size then some (.int .u8 ((s.data.toList.getD i.toNat 0).toNat)) else none
    | _, _ => none
  | .extract i x => match x.ev Γ env with
    | .tup l => l[i]?
    | _ => none
  | .len x => (x.ev Γ env).lenOf.map fun (n : Nat) => .int .i64 n
  | .slen x => match x.ev Γ env with
    | .p (.s (.string s)) => some (.int .i64 s.size)
    | _ => none
  | .minmax mx x y => match x.ev Γ env, y.ev Γ env with
    | .p (.s (.int k a)), .p (.s (.int _ b)) => some (.int k (if mx then (if b > a then b else a) else (if b < a then b else a)))
    | _, _ => none
  | .slice sz x lo hi => match bslO sz (x.ev Γ env) (evO Γ env lo) (evO Γ env hi) with
    | some r => some r
    | none => do
      let xs ← (x.ev Γ env).asSl sz
      let lo ← evO Γ env lo
      let hi' ← evO Γ env hi
      let (l, h) ← bounds xs.length lo hi'
      match x.ev Γ env, hi with
      | .own t _ _, none => some (.own t sz ((xs.take h).drop l))
      | _, _ => some (.p (.sl sz ((xs.take h).drop l)))
  | .faddr off x => match x.ev Γ env with
    | .ptr b o => some (.ptr b (o + off))
    | .cptr cs => some (.cptr (cs.drop off))
    | _ => none
  | .iaddrS sz x i => match bslA sz (x.ev Γ env) (i.ev Γ env).asInt with
    | some r => some r
    | none => match (x.ev Γ env).asSl sz, (i.ev Γ env).asInt with
      | some xs, some i => if 0 ≤ i ∧ i < xs.length then some (.cptr (xs.getD i.toNat [])) else none
      | _, _ => none
  | .iaddrA sz len x i => match x.ev Γ env, (i.ev Γ env).asInt with
    | .ptr b o, some i => if 0 ≤ i ∧ i < len then some (.ptr b (o + i.toNat * sz)) else none
    | .cptr cs, some i => if 0 ≤ i ∧ i < len then some (.cptr (cs.drop (i.toNat * sz))) else none
    | _, _ => none
  | .mkfn f first cap => some (.fn f (first.map (X.ev Γ env)) (cap.map (X.ev Γ env)))
  | .mkif t x => match x.ev Γ env with
    | .p (.s v) => some (.p (.s (.iface t v)))
    | .agg [] => some (.p (.s (.iface t (.agg #[]))))
    | _ => none
  | .nilchk x => match x.ev Γ env with
    | .ptr b o => some (.ptr b o)
    | .cptr cs => some (.cptr cs)
    | .fn (.func f) first cap => some (.fn (.func f) first cap)
    | _ => none
  | .load agg n a => match a.ev Γ env with
    | .cptr cs => subP agg cs n
    | _ => none
  | .build zero parts =>
    if parts.all fun (off, n, x) => (x.ev Γ env).celled && (x.ev Γ env).cells.length == n && decide (off + n ≤ zero.length) then
      some (.agg (fillA (zero.map AV.p) (parts.map fun (off, _, x) => (off, (x.ev Γ env).cells)))) else none
  | .arrptr n x => match x.ev Γ env with
    | .p (.sl _ xs) => if n ≤ xs.length ∧ 0 < xs.flatten.length then some (.cptr xs.flatten) else none
    | .own _ _ xs => if n ≤ xs.length ∧ 0 < xs.flatten.length then some (.cptr xs.flatten) else none
    | _ => none
  | .ext e xs => ePure e (xs.map (X.ev Γ env))
  | _ => none
end Go.Shade
