/- The value logic, part C: from the loaded code to the instructions. -/
import Derived.Test.YtlbnimbgodmagaaVlB
namespace Go.VL

/-- What the maker of a text says of a function: how a slice made at (region, operation) is kept; which types of whole numbers errors are of. -/
structure Ann where
  hold : List (Nat × Nat × Hold) := []
  errs : List (Nat × IntKind) := []
  chk : List (Nat × Nat) := []

def constAV : Value → Option AV
  | .bool b => some (.bool b)
  | .int k n => some (.int k n)
  | .string s => some (.str s)
  | .pointer none => some .nilp
  | .map none => some .nilm
  | .nilFunc => some .nilf
  | .nilIface => some .nili
  | .slice none 0 0 => some (.sl [] .nil)
  | _ => none
def constCs : List Value → Option (List AV)
  | [] => some []
  | v :: r => match constAV v, constCs r with
    | some x, some y => some (x :: y)
    | _, _ => none
/-- a constant, a struct's too -/
def constV : Value → Option AV
  | .agg ⟨cs⟩ => (constCs cs).map .agg
  | v => constAV v

def opX : Operand → Option X
  | .tmp t => some (.t t)
  | .const v => (constV v).map .c
  | .func f => some (.c (.func f [] []))
  | .global _ => none
def opXs : List Operand → Option (List X)
  | [] => some []
  | o :: r => match opX o, opXs r with
    | some x, some y => some (x :: y)
    | _, _ => none
def opXo : Option Operand → Option (Option X)
  | none => some none
  | some o => (opX o).map some

def isC : Operand → Bool
  | .const _ => true
  | _ => false

def nilC : Operand → Bool
  | .const (.slice none 0 0) => true
  | _ => false

/-- a type's cells, if it is a struct or an array -/
def kindOf (P : Program) (t : TypeId) : Option (Option Nat) :=
  match P.underlying t, P.info? t with
  | some (.struct _), some i => some (some i.size)
  | some (.array _ _), some i => some (some i.size)
  | some _, some i => if i.size = 1 then some none else none
  | _, _ => none

def sizeOf' (P : Program) (t : TypeId) : Option Nat := (P.info? t).map (·.size)
def zeroOf (P : Program) (t : TypeId) : Option AV := match P.info? t with
  | some i => match i.zero with
    | some z => constV z
    | none => none
  | none => none

def zlen (P : Program) (t : TypeId) : Option Nat := (zeroOf P t).map (·.cells.length)

def fieldOf (P : Program) (s : TypeId) (f : Nat) : Option Field := match P.underlying s with
  | some (.struct fs) => fs[f]?
  | _ => none

/-- where a struct's fields lie: (offset, cells) -/
def tabOf (P : Program) : List Field → Option (List (Nat × Nat))
  | [] => some []
  | f :: r => match sizeOf' P f.type, tabOf P r with
    | some k, some y => some ((f.offset, k) :: y)
    | _, _ => none
def placesOf (tab : List (Nat × Nat)) : List (Nat × Operand) → Option (List (Nat × Nat × X))
  | [] => some []
  | (i, o) :: r => match tab[i]?, opX o, placesOf tab r with
    | some f, some x, some y => some ((f.1, f.2, x) :: y)
    | _, _, _ => none

/-- the parts of a slice that is written out: all of them, in order -/
def partsOf : Nat → List (Nat × Operand) → Option (List X)
  | _, [] => some []
  | n, (i, o) :: r => if i = n then match opX o, partsOf (n + 1) r with
      | some x, some y => some (x :: y)
      | _, _ => none
    else none

def holdOf (A : Ann) (r i n : Nat) : Hold :=
  match A.hold.find? (fun p => p.1 == r && p.2.1 == i) with
  | some p => p.2.2
  | none => if n = 0 then .tip else .val

def holdMk (A : Ann) (r i : Nat) : Hold :=
  match A.hold.find? (fun p => p.1 == r && p.2.1 == i) with
  | some p => p.2.2
  | none => .own

def errsOk (P : Program) : List (Nat × IntKind) → Bool
  | [] => true
  | (t, k) :: r => (match P.underlying t, P.info? t with
    | some (.int k'), some i => k' == k && i.comparable
    | _, _ => false) && errsOk P r

def plainFields (P : Program) : List Field → Bool
  | [] => true
  | f :: r => f.name != "_" && (match P.underlying f.type with
    | some (.int _) | some .bool | some .string => true
    | _ => false) && plainFields P r

def holdApp (A : Ann) (r i : Nat) : Hold :=
  match A.hold.find? (fun p => p.1 == r && p.2.1 == i) with
  | some p => p.2.2
  | none => .tip

def keyKind (P : Program) (t : TypeId) : Option Nat :=
  match P.underlying t with
  | some (.int _) => some 0
  | some .string => some 1
  | _ => none

def compileCall (P : Program) (A : Ann) (q : Bool) (r i : Nat) (c : Call) : Option I :=
  match c.callee with
  | .builtin .len => match c.args.toList, c.argTypes.toList with
    | [x], t :: _ => match opX x, P.underlying t with
      | some x, some (.slice _) => some (.len x)
      | some x, some .string => some (.slen x)
      | some x, some (.map _ _) => some (.mlen x)
      | _, _ => none
    | _, _ => none
  | .builtin .append => match c.args.toList, c.argTypes.toList with
    | [s, x], [t, u] => match opX s, opX x, P.underlying t, P.underlying u with
      | some s, some x, some (.slice e), some (.slice _) => match P.info? e with
        | some ti => if 0 < ti.size ∧ 0 < ti.bytes ∧ zlen P e = some ti.size then some (.app ti.size ti.bytes (holdApp A r i) s x) else none
        | none => none
      | some s, some x, some (.slice e), some .string => match P.info? e with
        | some ti => if ti.size = 1 ∧ 0 < ti.bytes ∧ zlen P e = some ti.size then some (.app ti.size ti.bytes (holdApp A r i) s x) else none
        | none => none
      | some s, some x, some (.slice e), some (.int _) => match P.info? e, zeroOf P e with
        | some ti, some z => if 0 < ti.size ∧ 0 < ti.bytes ∧ z.cells.length = ti.size then some (.appZ ti.size ti.bytes z s x) else none
        | _, _ => none
      | _, _, _, _ => none
    | _, _ => none
  | .builtin .cap => match c.args.toList, c.argTypes.toList with
    | [x], t :: _ => match opX x, P.underlying t with
      | some x, some (.slice _) => some (.cap x)
      | _, _ => none
    | _, _ => none
  | .builtin .panic => some .panic
  | .builtin .copy => match c.args.toList, c.argTypes.toList with
    | [d, s], t :: _ => match opX d, opX s, P.underlying t with
      | some d, some s, some (.slice e) => (sizeOf' P e).map fun k => .copy k d s
      | _, _, _ => none
    | _, _ => none
  | .builtin .min => (opXs c.args.toList).map .mn
  | .builtin .max => (opXs c.args.toList).map .mx
  | .builtin .delete => match c.args.toList, c.argTypes.toList with
    | [m, k], t :: _ => match opX m, opX k, P.underlying t with
      | some m, some k, some (.map kt _) => (keyKind P kt).map fun kk => .del kk m k
      | _, _, _ => none
    | _, _ => none
  | .value (.func f) => match opXs c.args.toList with
    | some xs => some (if q then .qcall f xs else .call f xs)
    | none => none
  | .value x => match opX x, opXs c.args.toList with
    | some x, some xs => some (if q then .qcallv x xs else .callv x xs)
    | _, _ => none
  | _ => none

def compileOp (P : Program) (A : Ann) (q : Bool) (r i : Nat) (o : Oper) : Option I :=
  match o.op with
  | .move x | .assign x => (opX x).map .mv
  | .pick c a b => match opX c, opX a, opX b with
    | some c, some a, some b => some (.pick c a b)
    | _, _, _ => none
  | .box _ x => (opX x).map .box
  | .alloc t => (zeroOf P t).map fun z => .alloc z.cells
  | .build t parts => match zeroOf P t, P.underlying t with
    | some (.agg z), some (.struct fs) => match tabOf P fs.toList with
      | some tab => (placesOf tab parts.toList).map (.build z)
      | none => none
    | _, _ => none
  | .buildSlice t n parts => match P.underlying t with
    | some (.slice e) => match sizeOf' P e, zeroOf P e, partsOf 0 parts.toList with
      | some k, some _, some ps => if ps.length = n ∧ n * k ≤ 65536 then some (.bslice k (holdOf A r i n) ps) else none
      | _, _, _ => none
    | _ => none
  | .load t x => match kindOf P t, opX x with
    | some k, some x => some (if A.chk.any (fun p => p.1 == r && p.2 == i) then .qload i k x else .load k x)
    | _, _ => none
  | .store t a x => match sizeOf' P t, opX a, opX x with
    | some k, some a, some x => some (.store k a x)
    | _, _, _ => none
  | .nilCheck x => (opX x).map .nilCheck
  | .binOp op t x y _ => match opX x, opX y with
    | some x', some y' => match P.underlying t with
      | some (.int k) => some (.bin op k x' y')
      | some .string => some (.sbin op x' y')
      | some .bool => match op with
        | .eql => some (.bbin false x' y')
        | .neq => some (.bbin true x' y')
        | _ => none
      | some (.interface _) => if errsOk P A.errs then match op with
          | .eql => some (.eqI false (isC x || isC y) A.errs x' y')
          | .neq => some (.eqI true (isC x || isC y) A.errs x' y')
          | _ => none
        else none
      | some (.pointer e) => match sizeOf' P e, op with
        | some (_ + 1), .eql => some (.eqP false x' y')
        | some (_ + 1), .neq => some (.eqP true x' y')
        | _, _ => none
      | some (.slice _) => if q then none else match op, nilC y with
        | .eql, true => some (.eqS false x')
        | .neq, true => some (.eqS true x')
        | _, _ => none
      | _ => none
    | _, _ => none
  | .unOp op t x => match opX x, P.underlying t with
    | some x, some .bool => match op with
      | .not => some (.not x)
      | _ => none
    | some x, some (.int k) => match op with
      | .neg => some (.un .neg k x)
      | .xor => some (.un .xor k x)
      | _ => none
    | _, _ => none
  | .convert s d x => match opX x, P.underlying s, P.underlying d with
    | some x, some (.int _), some (.int k) => some (.conv k x)
    | some x, some (.slice e), some .string => match P.underlying e with
      | some (.int .u8) => some (.convBS x)
      | _ => none
    | some x, some (.slice _), some (.slice e) => match s == d, P.underlying e with
      | true, some (.int .u8) => some (.cvt x)
      | _, _ => none
    | some x, some .string, some (.slice e) => match P.underlying e with
      | some (.int .u8) => some (.convSB (holdOf A r i 0) x)
      | _ => none
    | _, _, _ => none
  | .makeInterface t x => match opX x, P.underlying t with
    | some _, some (.interface _) => none
    | some x, some _ => some (.mkI t x)
    | _, _ => none
  | .makeFunc (.func f) first captured => match opXs first.toList, opXs captured.toList with
    | some a, some b => some (.mkF f a b)
    | _, _ => none
  | .makeMap _ none => some .mkMap
  | .makeSlice t l c => match P.underlying t with
    | some (.slice e) => match P.info? e, zeroOf P e, opX l, opX c with
      | some ti, some z, some l, some c => if ti.size = z.cells.length ∧ 0 < ti.size then some (.mkS ti.size ti.bytes (holdMk A r i) z l c) else none
      | _, _, _, _ => none
    | _ => none
  | .slice t x lo hi none => match opX x, opXo lo, opXo hi with
    | some x, some lo, some hi => match P.underlying t with
      | some (.slice e) => (sizeOf' P e).map fun k => .slice k x lo hi
      | some .string => some (.sslice x lo hi)
      | _ => none
    | _, _, _ => none
  | .fieldAddr s x f => match fieldOf P s f, opX x with
    | some f, some x => match sizeOf' P f.type with
      | some (_ + 1) => some (.faddr f.offset x)
      | _ => none
    | _, _ => none
  | .field s x f => match fieldOf P s f, opX x with
    | some f, some x => match kindOf P f.type with
      | some k => some (.fld f.offset k x)
      | none => none
    | _, _ => none
  | .indexAddr t x j => match opX x, opX j, P.underlying t with
    | some x, some j, some (.slice e) => (sizeOf' P e).map fun k => .iaddr k x j
    | some x, some j, some (.array n e) => (sizeOf' P e).map fun k => .iaddrA n k x j
    | _, _, _ => none
  | .index t x j => match opX x, opX j, P.underlying t with
    | some x, some j, some .string => some (.idxS x j)
    | _, _, _ => none
  | .lookup t m k ok => match opX m, opX k, P.underlying t with
    | some m, some k, some (.map kt e) => match keyKind P kt, zeroOf P e with
      | some kk, some z => some (.look kk z ok m k)
      | _, _ => none
    | _, _, _ => none
  | .mapUpdate t m k v => match opX m, opX k, opX v, P.underlying t with
    | some m, some k, some v, some (.map kt _) => (keyKind P kt).map fun kk => .mapUp kk m k v
    | _, _, _, _ => none
  | .extract x j => (opX x).map fun x => .ext x j
  | .call c => compileCall P A q r i c
  | .panic _ => some .panic
  | .range t x => match opX x, P.underlying t with
    | some x, some (.map _ _) => some (.range x)
    | some x, some .string => some (.srange x)
    | _, _ => none
  | .next x st => match opX x with
    | some x => if q then none else some (if st then .snext x else .next x)
    | none => none
  | .entry x => match opX x with
    | some x => if q then none else some (.entry x)
    | none => none
  | _ => none

def compileOps (P : Program) (A : Ann) (q : Bool) (r : Nat) (all : Array Oper) : Nat → List Oper → Option (List O)
  | _, [] => some []
  | i, o :: rest =>
    match compileOp P A q r i o, compileOps P A q r all (i + 1) rest with
    | some x, some l => match o.guard with
      | none => some ({ dst := o.dst, i := x, g := none } :: l)
      | some (j, b) => match (all[j]?).bind (·.dst) with
        | some d => some ({ dst := o.dst, i := x, g := some (d, b) } :: l)
        | none => none
    | _, _ => none

/-! ### A region that draws its order -/

/-- 0: of its operands alone; 1: it reads what is owned; 2: it makes a name; 3: it writes; 4: a quiet call; 5: it reads what was owned ahead of the region; 6: it begins a walk. -/
def I.cat : I → Nat
  | .mv _ | .pick .. | .build .. | .nilCheck _ | .bin .. | .sbin .. | .bbin .. | .eqI .. | .eqP .. | .eqA .. | .not _ | .un .. | .conv .. | .mkI .. | .mkF ..
  | .slice .. | .sslice .. | .faddr .. | .fld .. | .len _ | .slen _ | .iaddr .. | .iaddrA .. | .idxS .. | .ext .. | .mn _ | .mx _ => 0
  | .bslice _ h _ => match h with | .val | .zero => 0 | _ => 2
  | .convSB h _ => match h with | .val => 0 | _ => 2
  | .mkS _ _ h _ _ _ => match h with | .val => 0 | _ => 2
  | .load .. | .look .. | .mlen _ | .convBS _ => 1
  | .cap _ => 0
  | .cvt _ => 3
  | .qload .. => 5
  | .range _ | .srange _ => 6
  | .box _ | .alloc _ | .mkMap => 2
  | .store .. | .mapUp .. | .app .. | .appZ .. | .del .. | .call .. | .callv .. | .eqS .. | .panic | .copy .. | .next _ | .snext _ | .entry _ => 3
  | .qcall .. | .qcallv .. => 4

def catOk (a b : Nat) : Bool := a == 0 || b == 0 || (a == 1 && b == 1) || (a == 1 && b == 4) || (a == 4 && b == 1) ||
  (a == 2 && b == 2) || (a == 5 && (b == 1 || b == 2 || b == 4 || b == 5)) || (b == 5 && (a == 1 || a == 2 || a == 4))

/-- a checked load knows its place -/
def I.placed (i : Nat) : I → Bool
  | .qload c _ _ => c == i
  | _ => true

def X.tmps : X → List Nat
  | .t i => [i]
  | .c _ => []
def Xo.tmps : Option X → List Nat
  | some x => x.tmps
  | none => []
def I.uses : I → List Nat
  | .mv x | .box x | .load _ x | .qload _ _ x | .cvt x | .nilCheck x | .not x | .un _ _ x | .conv _ x | .convBS x | .convSB _ x | .mkI _ x | .faddr _ x | .fld _ _ x | .ext x _ | .len x | .slen x | .mlen x | .eqS _ x | .cap x | .range x | .srange x | .next x | .snext x | .entry x => x.tmps
  | .pick a b c => a.tmps ++ b.tmps ++ c.tmps
  | .alloc _ | .mkMap | .panic => []
  | .build _ ps => ps.flatMap fun p => p.2.2.tmps
  | .bslice _ _ xs | .mn xs | .mx xs | .call _ xs | .qcall _ xs => xs.flatMap X.tmps
  | .store _ a x | .bin _ _ a x | .sbin _ a x | .bbin _ a x | .eqI _ _ _ a x | .eqP _ a x | .eqA _ _ a x | .iaddr _ a x | .iaddrA _ _ a x | .idxS a x | .look _ _ _ a x | .app _ _ _ a x | .appZ _ _ _ a x | .copy _ a x | .del _ a x => a.tmps ++ x.tmps
  | .mkF _ a b => a.flatMap X.tmps ++ b.flatMap X.tmps
  | .mkS _ _ _ _ a b => a.tmps ++ b.tmps
  | .slice _ x lo hi | .sslice x lo hi => x.tmps ++ Xo.tmps lo ++ Xo.tmps hi
  | .mapUp _ a b c => a.tmps ++ b.tmps ++ c.tmps
  | .callv x xs | .qcallv x xs => x.tmps ++ xs.flatMap X.tmps
def O.looks (o : O) : List Nat := o.i.uses ++ (match o.g with | some (t, _) => [t] | none => [])

/-- neither sees the other -/
def indep (a b : O) : Bool :=
  catOk a.i.cat b.i.cat &&
  (match a.dst with | some d => !b.looks.contains d | none => true) && (match b.dst with | some d => !a.looks.contains d | none => true) &&
  (match a.dst, b.dst with | some d, some e => d != e | _, _ => true)

/-- which operations each one waits for, as bits -/
def masks : List Oper → List Nat → List Nat
  | [], acc => acc
  | o :: r, acc => masks r (acc ++ [o.after.toList.foldl (fun m e => if Region.binds .any e then m ||| (2 ^ e.on ||| acc.getD e.on 0) else m) 0])

def commOk (ops : Array Oper) (l : List O) : Bool :=
  (List.range ops.size).all fun i => (List.range i).all fun j => ((masks ops.toList []).getD i 0).testBit j || (match l[j]?, l[i]? with
    | some a, some b => indep a b && a.i.placed j && b.i.placed i
    | _, _ => false)

def backOk (ops : Array Oper) : Bool := (List.range ops.size).all fun i => match ops[i]? with
  | some o => o.after.all fun e => !Region.binds .any e || decide (e.on < i)
  | none => true

def compileC (P : Program) (A : Ann) : Code → Option C
  | .skip => some .skip
  | .region id ops draw => match compileOps P A draw id ops 0 ops.toList with
    | some l => if draw then (if commOk ops l && backOk ops then some (.reg l) else none) else some (.reg l)
    | none => none
  | .seq a b => match compileC P A a, compileC P A b with
    | some x, some y => some (.seq x y)
    | _, _ => none
  | .cond c a b => match opX c, compileC P A a, compileC P A b with
    | some x, some y, some z => some (.cond x y z)
    | _, _, _ => none
  | .block id c => (compileC P A c).map (.block id)
  | .loop c => (compileC P A c).map .loop
  | .exit id => some (.exit id)
  | .ret => some .ret
  | _ => none

end Go.VL
