/- The value logic, part B: what is owned, the relation to a memory, the instructions and what each comes to. -/
import Derived.Test.YtlbnimbgodmagaaVlA
import GoSem.Core.Utf8
namespace Go.VL

/-- What a name owns: a row of cells; the room behind a slice's end (elements of k cells); a map's entries, when each was put, and the next such time; a walk over a map; a walk over a text. -/
inductive Res where
  | obj (cs : List AV)
  | tip (k : Nat)
  | map (es : List (AV × AV)) (ts : List Nat) (clk : Nat)
  | iter (m : Option Nat) (since : Nat) (seen : List Nat) (last : Nat)
  | siter (s : ByteArray) (pos : Nat)

structure St where
  next : Nat
  res : Nat → Option Res

def St.set (σ : St) (n : Nat) (r : Res) : St := { σ with res := fun m => if m = n then some r else σ.res m }
def St.del (σ : St) (n : Nat) : St := { σ with res := fun m => if m = n then none else σ.res m }
def St.up (σ : St) (k : Nat) : St := { σ with next := σ.next + k }

@[simp] theorem St.set_next (σ : St) (n : Nat) (r : Res) : (σ.set n r).next = σ.next := rfl
@[simp] theorem St.del_next (σ : St) (n : Nat) : (σ.del n).next = σ.next := rfl
@[simp] theorem St.up_next (σ : St) (k : Nat) : (σ.up k).next = σ.next + k := rfl
@[simp] theorem St.up_res (σ : St) (k : Nat) : (σ.up k).res = σ.res := rfl
@[simp] theorem St.set_same (σ : St) (n : Nat) (r : Res) : (σ.set n r).res n = some r := by simp [St.set]
theorem St.set_other (σ : St) {n m : Nat} (r : Res) (h : m ≠ n) : (σ.set n r).res m = σ.res m := by simp [St.set, h]
@[simp] theorem St.set_set (σ : St) (n : Nat) (r s : Res) : (σ.set n r).set n s = σ.set n s := by
  simp only [St.set]; congr 1; funext m; by_cases h : m = n <;> simp [h]
theorem St.set_self {σ : St} {n : Nat} {r : Res} (h : σ.res n = some r) : σ.set n r = σ := by
  cases σ; simp only [St.set, St.mk.injEq, true_and]; funext m; by_cases hm : m = n
  · subst hm; simp at h ⊢; exact h.symm
  · simp [hm]
theorem St.set_comm (σ : St) {n m : Nat} (r s : Res) (h : n ≠ m) : (σ.set n r).set m s = (σ.set m s).set n r := by
  simp only [St.set]; congr 1; funext i; by_cases h1 : i = n <;> by_cases h2 : i = m <;> simp_all

inductive X where
  | t (i : Nat)
  | c (v : AV)

def ev (ρ : List AV) : X → AV
  | .t i => ρ.getD i .any
  | .c v => v

/-- How a slice that is made is kept: as a value; as a value whose room is owned; as a row that is owned; as one without any room; as room alone. -/
inductive Hold where
  | val | tip | own | zero | room

inductive I where
  | mv (x : X)
  | pick (c a b : X)
  | box (x : X)
  | alloc (z : List AV)
  | build (z : List AV) (parts : List (Nat × Nat × X))
  | bslice (k : Nat) (h : Hold) (parts : List X)
  | load (k : Option Nat) (x : X)
  | store (k : Nat) (a x : X)
  | nilCheck (x : X)
  | bin (op : BinOp) (k : IntKind) (x y : X)
  | sbin (op : BinOp) (x y : X)
  | bbin (neg : Bool) (x y : X)
  | eqI (neg lit : Bool) (ts : List (Nat × IntKind)) (x y : X)
  | eqP (neg : Bool) (x y : X)
  | eqA (neg : Bool) (n : Nat) (x y : X)
  | not (x : X)
  | un (op : UnOp) (k : IntKind) (x : X)
  | conv (k : IntKind) (x : X)
  | convBS (x : X)
  | convSB (h : Hold) (x : X)
  | mkI (t : Nat) (x : X)
  | mkF (f : Nat) (first captured : List X)
  | mkMap
  | mkS (k bytes : Nat) (h : Hold) (z : AV) (len cap : X)
  | slice (k : Nat) (x : X) (lo hi : Option X)
  | sslice (x : X) (lo hi : Option X)
  | faddr (off : Nat) (x : X)
  | fld (off : Nat) (k : Option Nat) (x : X)
  | iaddr (k : Nat) (x i : X)
  | iaddrA (n k : Nat) (x i : X)
  | idxS (x i : X)
  | look (kk : Nat) (z : AV) (ok : Bool) (m k : X)
  | mapUp (kk : Nat) (m k v : X)
  | ext (x : X) (i : Nat)
  | len (x : X)
  | slen (x : X)
  | mlen (x : X)
  | app (k bytes : Nat) (h : Hold) (s x : X)
  | eqS (neg : Bool) (x : X)
  | qload (c : Nat) (k : Option Nat) (x : X)
  | appZ (k bytes : Nat) (z : AV) (s n : X)
  | cvt (x : X)
  | cap (x : X)
  | panic
  | copy (k : Nat) (d s : X)
  | range (x : X)
  | srange (x : X)
  | next (x : X)
  | snext (x : X)
  | entry (x : X)
  | del (kk : Nat) (m k : X)
  | mn (xs : List X)
  | mx (xs : List X)
  | call (f : Nat) (args : List X)
  | callv (x : X) (args : List X)
  | qcall (f : Nat) (args : List X)
  | qcallv (x : X) (args : List X)

structure O where
  dst : Option Nat
  i : I
  g : Option (Nat × Bool)

inductive C where
  | skip
  | reg (ops : List O)
  | seq (a b : C)
  | cond (x : X) (a b : C)
  | block (id : Nat) (c : C)
  | loop (c : C)
  | exit (id : Nat)
  | ret

/-! ### What the instructions come to -/

def ldc (cs : List AV) (off : Nat) : Option Nat → Option AV
  | none => cs[off]?
  | some k => if off + k ≤ cs.length then some (.agg ((cs.drop off).take k)) else none

def splice (cs : List AV) (off : Nat) (ys : List AV) : List AV := cs.take off ++ ys ++ cs.drop (off + ys.length)

def AV.er1 : AV → AV
  | .sl xs _ => .sl xs .none
  | x => x
/-- an element: what is known of rooms is dropped -/
def AV.er : AV → AV
  | .agg cs => .agg (cs.map AV.er1)
  | x => x.er1

/-- bytes -/
def bytesAV (l : List UInt8) : List AV := l.map fun b => .int .u8 b.toNat
def toBytes : List AV → Option (List UInt8)
  | [] => some []
  | .int .u8 n :: r => (toBytes r).map (UInt8.ofNat n.toNat :: ·)
  | _ => none

def AV.isAny : AV → Bool
  | .any => true
  | _ => false

/-- what one cell of memory may hold -/
def AV.one : AV → Bool
  | .any | .agg _ | .tup _ => false
  | _ => true
/-- a value of k cells -/
def AV.fits (k : Nat) (x : AV) : Bool := !x.isAny && x.cells.length == k && x.cells.all AV.one

def binv (op : BinOp) (k : IntKind) (a : Int) (k' : IntKind) (b : Int) : Option AV :=
  match op with
  | .shl => if b < 0 then none else some (.int k (k.wrap (a * 2 ^ min b.toNat k.bits)))
  | .shr => if b < 0 then none else some (.int k (a.fdiv (2 ^ min b.toNat k.bits)))
  | _ => if k = k' then
    match op with
    | .add => some (.int k (k.wrap (a + b)))
    | .sub => some (.int k (k.wrap (a - b)))
    | .mul => some (.int k (k.wrap (a * b)))
    | .quo => if b = 0 then none else some (.int k (k.wrap (a.tdiv b)))
    | .rem => if b = 0 then none else some (.int k (a.tmod b))
    | .and => some (.int k (k.wrap (BitVec.ofInt k.bits a &&& BitVec.ofInt k.bits b).toNat))
    | .or => some (.int k (k.wrap (BitVec.ofInt k.bits a ||| BitVec.ofInt k.bits b).toNat))
    | .xor => some (.int k (k.wrap (BitVec.ofInt k.bits a ^^^ BitVec.ofInt k.bits b).toNat))
    | .andNot => some (.int k (k.wrap (BitVec.ofInt k.bits a &&& ~~~ BitVec.ofInt k.bits b).toNat))
    | .eql => some (.bool (a == b))
    | .neq => some (.bool (a != b))
    | .lss => some (.bool (decide (a < b)))
    | .leq => some (.bool (decide (a ≤ b)))
    | .gtr => some (.bool (decide (a > b)))
    | .geq => some (.bool (decide (a ≥ b)))
    | _ => none
  else none

def sbinv (op : BinOp) (a b : ByteArray) : Option AV :=
  match op with
  | .add => if ((a.size + b.size : Nat) : Int) > IntKind.i64.max then none else some (.str (a ++ b))
  | .eql => some (.bool (decide (a = b)))
  | .neq => some (.bool !(decide (a = b)))
  | .lss => some (.bool (Op.bytesLess a.toList b.toList))
  | .leq => some (.bool (Op.bytesLess a.toList b.toList || a.toList == b.toList))
  | .gtr => some (.bool !(Op.bytesLess a.toList b.toList || a.toList == b.toList))
  | .geq => some (.bool !(Op.bytesLess a.toList b.toList))
  | _ => none

/-- '==' of two interface values: nil, or of one of the listed types of whole numbers -/
def eqIv (lit : Bool) (ts : List (Nat × IntKind)) : AV → AV → Option Bool
  | .nili, .nili => if lit then some true else none
  | .nili, .iface _ _ | .iface _ _, .nili => some false
  | .iface t (.int k a), .iface t' (.int k' b) => if t = t' then (if k = k' && ts.any (fun p => p.1 == t && p.2 == k) then some (a == b) else none) else some false
  | .iface t _, .iface t' _ => if t = t' then none else some false
  | _, _ => none

def eqPv : AV → AV → Option Bool
  | .nilp, .nilp => some true
  | .nilp, .ptr _ _ | .ptr _ _, .nilp => some false
  | .ptr n a, .ptr m b => if n = m then some (a == b) else none
  | _, _ => none

/-- '==' of two rows of numbers, bools and texts -/
def eqAv : List AV → List AV → Option Bool
  | [], [] => some true
  | .int k a :: x, .int k' b :: y => if k = k' then (eqAv x y).map fun r => a == b && r else none
  | .bool a :: x, .bool b :: y => (eqAv x y).map fun r => a == b && r
  | .str a :: x, .str b :: y => (eqAv x y).map fun r => decide (a = b) && r
  | _, _ => none

/-- '==' of two keys of a map -/
def keq : AV → AV → Option Bool
  | .int k a, .int k' b => if k = k' then some (a == b) else none
  | .str a, .str b => some (decide (a = b))
  | .agg a, .agg b => eqAv a b
  | _, _ => none

def kshape : Nat → AV → Bool
  | 0, .int _ _ => true
  | 1, .str _ => true
  | 2, .agg _ => true
  | _, _ => false

def mfind (k : AV) : List (AV × AV) → Option (Option AV)
  | [] => some none
  | e :: es => match keq k e.1 with
    | some true => some (some e.2)
    | some false => mfind k es
    | none => none

def mput (k v : AV) : List (AV × AV) → List (AV × AV)
  | [] => [(k, v)]
  | e :: es => match keq k e.1 with
    | some true => (k, v) :: es
    | _ => e :: mput k v es

def midx (k : AV) : List (AV × AV) → Nat
  | [] => 0
  | e :: es => match keq k e.1 with
    | some true => 0
    | _ => midx k es + 1

def mdel (k : AV) : List (AV × AV) → List (AV × AV)
  | [] => []
  | e :: es => match keq k e.1 with
    | some true => es
    | _ => e :: mdel k es

def idx (ρ : List AV) (d : Int) : Option X → Option Int
  | none => some d
  | some x => match ev ρ x with
    | .int _ n => some n
    | _ => none

def mn2 : AV → AV → Option AV
  | .int k x, .int _ y => some (.int k (if y < x then y else x))
  | _, _ => none
def mx2 : AV → AV → Option AV
  | .int k x, .int _ y => some (.int k (if y > x then y else x))
  | _, _ => none

def fillA (ρ : List AV) : List AV → List (Nat × Nat × X) → Option (List AV)
  | cs, [] => some cs
  | cs, (off, k, x) :: r =>
    if (ev ρ x).fits k ∧ off + k ≤ cs.length then fillA ρ (splice cs off (ev ρ x).cells) r else none

/-- what is appended -/
def srcOf (σ : St) (k : Nat) : AV → Option (List AV)
  | .sl ys _ => some (ys.map AV.er)
  | .str t => some (bytesAV t.data.toList)
  | .ref n off len => match σ.res n with
    | some (.obj cs) => if k = 1 ∧ off + len ≤ cs.length ∧ ((cs.drop off).take len).all AV.one = true then some (((cs.drop off).take len).map AV.er1) else none
    | _ => none
  | _ => none

def Ver.noRoom : Ver → Bool
  | .nil | .zero => true
  | _ => false

abbrev CallP := Nat → List AV → St → (AV → St → Prop) → Prop

def opt {α : Type} (K : α → Prop) : Option α → Prop
  | some v => K v
  | none => False

def held (k nm : Nat) (σ : St) (K : AV → St → Prop) (xs : List AV) : Hold → Prop
  | .val => K (.sl (xs.map AV.er) .none) σ
  | .tip => K (.sl (xs.map AV.er) (.tip nm)) (σ.set nm (.tip k))
  | .own => K (.ref nm 0 xs.length) (σ.set nm (.obj (xs.flatMap AV.cells)))
  | .zero => False
  | .room => K (.room nm xs.length) (σ.set nm (.tip k))

def astep (CP : CallP) (nm : Nat) (ρ : List AV) (σ : St) (K : AV → St → Prop) : I → Prop
  | .mv x => K (ev ρ x) σ
  | .pick c a b => match ev ρ c with
    | .bool t => K (if t then ev ρ a else ev ρ b) σ
    | _ => False
  | .box x => if (ev ρ x).isAny then False else K (.ptr nm 0) (σ.set nm (.obj (ev ρ x).cells))
  | .alloc z => K (.ptr nm 0) (σ.set nm (.obj z))
  | .build z parts => opt (fun v => K v σ) ((fillA ρ z parts).map .agg)
  | .bslice k h parts => match h with
    | .zero => if parts.isEmpty then K (.sl [] .zero) σ else False
    | h => if (parts.map (ev ρ)).all (AV.fits k) then held k nm σ K (parts.map (ev ρ)) h else False
  | .load k x => match ev ρ x with
    | .ptr n off => match σ.res n with
      | some (.obj cs) => opt (fun v => K v σ) (ldc cs off k)
      | _ => False
    | .eptr cs => opt (fun v => K v σ) (ldc cs 0 k)
    | _ => False
  | .store k a x => match ev ρ a with
    | .ptr n off => match σ.res n with
      | some (.obj cs) => if (ev ρ x).fits k && decide (off + k ≤ cs.length) then K (.tup []) (σ.set n (.obj (splice cs off (ev ρ x).cells))) else False
      | _ => False
    | _ => False
  | .nilCheck x => match ev ρ x with
    | .ptr n off => K (.ptr n off) σ
    | .eptr cs => K (.eptr cs) σ
    | _ => False
  | .bin op k x y => match ev ρ x, ev ρ y with
    | .int k1 a, .int k2 b => if k1 = k then opt (fun v => K v σ) (binv op k a k2 b) else False
    | _, _ => False
  | .sbin op x y => match ev ρ x, ev ρ y with
    | .str a, .str b => opt (fun v => K v σ) (sbinv op a b)
    | _, _ => False
  | .bbin neg x y => match ev ρ x, ev ρ y with
    | .bool a, .bool b => K (.bool ((a == b) != neg)) σ
    | _, _ => False
  | .eqI neg lit ts x y => match eqIv lit ts (ev ρ x) (ev ρ y) with
    | some b => K (.bool (b != neg)) σ
    | none => False
  | .eqP neg x y => match eqPv (ev ρ x) (ev ρ y) with
    | some b => K (.bool (b != neg)) σ
    | none => False
  | .eqA neg n x y => match ev ρ x, ev ρ y with
    | .agg a, .agg b => if a.length = n then match eqAv a b with
        | some r => K (.bool (r != neg)) σ
        | none => False
      else False
    | _, _ => False
  | .not x => match ev ρ x with
    | .bool b => K (.bool !b) σ
    | _ => False
  | .un op k x => match ev ρ x with
    | .int k1 a => if k1 = k then match op with
        | .neg => K (.int k (k.wrap (0 - a))) σ
        | .xor => opt (fun v => K v σ) (binv .xor k (if k.signed then -1 else k.max) k a)
        | _ => False
      else False
    | _ => False
  | .conv k x => match ev ρ x with
    | .int _ n => K (.int k (k.wrap n)) σ
    | _ => False
  | .convBS x => match ev ρ x with
    | .sl xs _ => opt (fun bs => K (.str ⟨bs.toArray⟩) σ) (toBytes xs)
    | .ref n off len => match σ.res n with
      | some (.obj cs) => if off + len ≤ cs.length then opt (fun bs => K (.str ⟨bs.toArray⟩) σ) (toBytes ((cs.drop off).take len)) else False
      | _ => False
    | _ => False
  | .convSB h x => match ev ρ x with
    | .str s => held 1 nm σ K (bytesAV s.data.toList) h
    | _ => False
  | .mkI t x => K (.iface t (ev ρ x)) σ
  | .mkF f first captured => K (.func f (first.map (ev ρ)) (captured.map (ev ρ))) σ
  | .mkMap => K (.map nm) (σ.set nm (.map [] [] 0))
  | .mkS k bytes h z len cap => match ev ρ len, ev ρ cap with
    | .int _ l, .int _ c => if 0 ≤ l ∧ l ≤ c ∧ c * bytes ≤ 140737488355328 ∧ c ≤ 9223372036854775807 ∧ z.fits k = true ∧ c = l then held k nm σ K (List.replicate l.toNat z) h else False
    | _, _ => False
  | .slice k x lo hi => match ev ρ x with
    | .sl xs g => match idx ρ 0 lo, idx ρ xs.length hi with
      | some l, some h => if 0 ≤ l ∧ l ≤ h ∧ h ≤ xs.length ∧ xs.all (AV.fits k) = true then
          K (.sl ((xs.drop l.toNat).take (h - l).toNat) (if h = xs.length ∧ (l = 0 ∨ l < h) then g else .none)) σ else False
      | _, _ => False
    | .ref n off len => match idx ρ 0 lo, idx ρ len hi with
      | some l, some h => if 0 ≤ l ∧ l ≤ h ∧ h ≤ len then K (if l = h then .sl [] .none else .ref n (off + l.toNat * k) (h - l).toNat) σ else False
      | _, _ => False
    | .room g n => match idx ρ 0 lo, idx ρ n hi with
      | some l, some h => if l = 0 ∧ h = 0 then K (.sl [] (.tip g)) σ else False
      | _, _ => False
    | _ => False
  | .sslice x lo hi => match ev ρ x with
    | .str s => match idx ρ 0 lo, idx ρ s.size hi with
      | some l, some h => if 0 ≤ l ∧ l ≤ h ∧ h ≤ s.size then K (.str (s.extract l.toNat h.toNat)) σ else False
      | _, _ => False
    | _ => False
  | .faddr off x => match ev ρ x with
    | .ptr n o => K (.ptr n (o + off)) σ
    | .eptr cs => K (.eptr (cs.drop off)) σ
    | _ => False
  | .fld off k x => match ev ρ x with
    | .agg cs => opt (fun v => K v σ) (ldc cs off k)
    | _ => False
  | .iaddr k x i => match ev ρ x, ev ρ i with
    | .sl xs _, .int _ n => if 0 ≤ n ∧ n < xs.length then match xs[n.toNat]? with
        | some y => if y.cells.length = k then K (.eptr y.cells) σ else False
        | none => False
      else False
    | .ref m off len, .int _ n => if 0 ≤ n ∧ n < len then K (.ptr m (off + n.toNat * k)) σ else False
    | _, _ => False
  | .iaddrA len k x i => match ev ρ x, ev ρ i with
    | .ptr m off, .int _ n => if 0 ≤ n ∧ n < len then K (.ptr m (off + n.toNat * k)) σ else False
    | _, _ => False
  | .idxS x i => match ev ρ x, ev ρ i with
    | .str s, .int _ n => if 0 ≤ n ∧ n < s.size then match s.data.toList[n.toNat]? with
        | some b => K (.int .u8 b.toNat) σ
        | none => False
      else False
    | _, _ => False
  | .look kk z ok m k => match ev ρ m with
    | .nilm => K (if ok then .tup [z, .bool false] else z) σ
    | .map n => match σ.res n with
      | some (.map es _ _) => if kshape kk (ev ρ k) then match mfind (ev ρ k) es with
        | some (some v) => K (if ok then .tup [v, .bool true] else v) σ
        | some none => K (if ok then .tup [z, .bool false] else z) σ
        | none => False
        else False
      | _ => False
    | _ => False
  | .mapUp kk m k v => match ev ρ m with
    | .map n => match σ.res n with
      | some (.map es ts clk) => if kshape kk (ev ρ k) then match mfind (ev ρ k) es with
        | some (some _) => K (.tup []) (σ.set n (.map (mput (ev ρ k) (ev ρ v) es) ts clk))
        | some none => K (.tup []) (σ.set n (.map (mput (ev ρ k) (ev ρ v) es) (ts ++ [clk]) (clk + 1)))
        | none => False
        else False
      | _ => False
    | _ => False
  | .ext x i => match ev ρ x with
    | .tup xs => opt (fun v => K v σ) (xs[i]?)
    | _ => False
  | .len x => match ev ρ x with
    | .sl xs _ => K (.int .i64 xs.length) σ
    | .ref _ _ n => K (.int .i64 n) σ
    | _ => False
  | .slen x => match ev ρ x with
    | .str s => K (.int .i64 s.size) σ
    | _ => False
  | .mlen x => match ev ρ x with
    | .nilm => K (.int .i64 0) σ
    | .map n => match σ.res n with
      | some (.map es _ _) => K (.int .i64 es.length) σ
      | _ => False
    | _ => False
  | .app k bytes hd s x => match ev ρ s with
    | .sl xs g =>
      match srcOf σ k (ev ρ x) with
      | some ys =>
        if (xs ++ ys).all (AV.fits k) && decide ((xs.length + ys.length) * bytes ≤ 70368744177664 ∧ xs.length + ys.length ≤ 4611686018427387904) then
          match g with
          | .nil => match hd with
            | .own => if ys.isEmpty then K (.sl [] .nil) σ else K (.ref nm 0 ys.length) (σ.set nm (.obj (ys.flatMap AV.cells)))
            | .room => if ys.isEmpty then K (.sl [] .nil) σ else K (.room nm ys.length) (σ.set nm (.tip k))
            | _ => K (.sl (xs ++ ys) (if ys.isEmpty then .nil else .tip nm)) (if ys.isEmpty then σ else σ.set nm (.tip k))
          | .zero => match hd with
            | .own => if ys.isEmpty then K (.sl [] .zero) σ else K (.ref nm 0 ys.length) (σ.set nm (.obj (ys.flatMap AV.cells)))
            | .room => if ys.isEmpty then K (.sl [] .zero) σ else K (.room nm ys.length) (σ.set nm (.tip k))
            | _ => K (.sl (xs ++ ys) (if ys.isEmpty then .zero else .tip nm)) (if ys.isEmpty then σ else σ.set nm (.tip k))
          | .tip h => match σ.res h with
            | some (.tip k') => if k' = k then K (.sl (xs ++ ys) (.tip nm)) ((σ.del h).set nm (.tip k)) else False
            | _ => False
          | .none => False
        else False
      | none => False
    | _ => False
  | .del kk m k => match ev ρ m with
    | .map n => match σ.res n with
      | some (.map es ts clk) => if kshape kk (ev ρ k) then match mfind (ev ρ k) es with
        | some (some _) => K (.tup []) (σ.set n (.map (mdel (ev ρ k) es) (ts.eraseIdx (midx (ev ρ k) es)) clk))
        | some none => K (.tup []) σ
        | none => False
        else False
      | _ => False
    | _ => False
  | .eqS neg x => match ev ρ x with
    | .sl _ .nil => K (.bool (true != neg)) σ
    | .sl xs _ => if xs.isEmpty then (∀ b, K (.bool b) σ) else K (.bool (false != neg)) σ
    | .ref _ _ _ => K (.bool (false != neg)) σ
    | .room _ _ => K (.bool (false != neg)) σ
    | _ => False
  | .qload c k x => match ev ρ x with
    | .ptr n off => if n + c < nm then (match σ.res n with
      | some (.obj cs) => opt (fun v => K v σ) (ldc cs off k)
      | _ => False) else False
    | .eptr cs => opt (fun v => K v σ) (ldc cs 0 k)
    | _ => False
  | .appZ k bytes z s x => match ev ρ s, ev ρ x with
    | .sl [] g, .int _ n => if g.noRoom = true ∧ 0 < n ∧ n * bytes ≤ 70368744177664 ∧ n ≤ 4611686018427387904 ∧ z.fits k = true then K (.room nm n.toNat) (σ.set nm (.tip k)) else False
    | _, _ => False
  | .cvt x => match ev ρ x with
    | .ref n off len => match σ.res n with
      | some (.obj _) => K (.ref n off len) σ
      | _ => False
    | _ => False
  | .cap x => match ev ρ x with
    | .sl _ .nil => K (.int .i64 0) σ
    | .sl _ .zero => K (.int .i64 0) σ
    | _ => False
  | .panic => False
  | .copy k d s => match ev ρ d with
    | .ref n off len => match σ.res n with
      | some (.obj cs) => match srcOf σ k (ev ρ s) with
        | some ys => if ys.all (AV.fits k) && decide (off + len * k ≤ cs.length) then
            K (.int .i64 (min ys.length len : Nat)) (σ.set n (.obj (splice cs off ((ys.take len).flatMap AV.cells)))) else False
        | none => False
      | _ => False
    | .sl xs _ => match srcOf σ k (ev ρ s) with
      | some ys => if xs.isEmpty && ys.all (AV.fits k) then K (.int .i64 0) σ else False
      | none => False
    | _ => False
  | .range x => match ev ρ x with
    | .nilm => K (.ptr nm 0) (σ.set nm (.iter none 0 [] 0))
    | .map n => match σ.res n with
      | some (.map _ _ clk) => K (.ptr nm 0) (σ.set nm (.iter (some n) clk [] clk))
      | _ => False
    | _ => False
  | .srange x => match ev ρ x with
    | .str s => K (.ptr nm 0) (σ.set nm (.siter s 0))
    | _ => False
  | .next x => match ev ρ x with
    | .ptr it 0 => match σ.res it with
      | some (.iter none _ _ _) => K (.tup [.bool false]) σ
      | some (.iter (some m) since seen last) => match σ.res m with
        | some (.map es ts clk) => if since = clk ∧ last = clk then
            (∀ (i : Nat) (p : AV × AV) (t : Nat), es[i]? = some p → ts[i]? = some t → t ∉ seen → K (.tup [.bool true, p.1, p.2]) (σ.set it (.iter (some m) since (seen ++ [t]) clk))) ∧
            ((∀ t ∈ ts, t ∈ seen) → K (.tup [.bool false]) σ) else False
        | _ => False
      | _ => False
    | _ => False
  | .snext x => match ev ρ x with
    | .ptr it 0 => match σ.res it with
      | some (.siter s pos) => if pos < s.size then K (.tup [.bool true, .int .i64 pos, .int .i32 (Utf8.decode s pos).1]) (σ.set it (.siter s (pos + (Utf8.decode s pos).2)))
          else K (.tup [.bool false]) σ
      | _ => False
    | _ => False
  | .entry x => match ev ρ x with
    | .ptr it 0 => match σ.res it with
      | some (.iter (some m) _ seen last) => match σ.res m with
        | some (.map es ts clk) => if last = clk then ∃ (i : Nat) (p : AV × AV) (t : Nat), seen.getLast? = some t ∧ ts[i]? = some t ∧ es[i]? = some p ∧ K (.tup [p.1, p.2]) σ else False
        | _ => False
      | _ => False
    | _ => False
  | .mn xs => match xs.map (ev ρ) with
    | [] => False
    | y :: r => opt (fun v => K v σ) (r.foldlM mn2 y)
  | .mx xs => match xs.map (ev ρ) with
    | [] => False
    | y :: r => opt (fun v => K v σ) (r.foldlM mx2 y)
  | .call f args => CP f (args.map (ev ρ)) σ K
  | .callv x args => match ev ρ x with
    | .func f first captured => CP f (first ++ args.map (ev ρ) ++ captured) σ K
    | _ => False
  | .qcall f args => ∃ v, CP f (args.map (ev ρ)) σ (fun v' σ' => v' = v ∧ σ' = σ) ∧ K v σ
  | .qcallv x args => match ev ρ x with
    | .func f first captured => ∃ v, CP f (first ++ args.map (ev ρ) ++ captured) σ (fun v' σ' => v' = v ∧ σ' = σ) ∧ K v σ
    | _ => False

def setd (ρ : List AV) (v : AV) : Option Nat → List AV
  | some d => ρ.set d v
  | none => ρ

def aops (CP : CallP) (base : Nat) : Nat → List O → List AV → St → (List AV → St → Prop) → Prop
  | _, [], ρ, σ, K => K ρ σ
  | i, o :: r, ρ, σ, K =>
    match o.g with
    | none => astep CP (base + i) ρ σ (fun v σ' => aops CP base (i + 1) r (setd ρ v o.dst) σ' K) o.i
    | some (t, b) => match ρ.getD t .any with
      | .bool c => (c = b → astep CP (base + i) ρ σ (fun v σ' => aops CP base (i + 1) r (setd ρ v o.dst) σ' K) o.i) ∧
          (c = !b → aops CP base (i + 1) r (setd ρ (.tup []) o.dst) σ K)
      | .tup [] => aops CP base (i + 1) r (setd ρ (.tup []) o.dst) σ K
      | _ => False

def I.names : I → Bool
  | .box _ | .alloc _ | .mkMap | .app .. | .appZ .. | .range _ | .srange _ => true
  | .bslice _ h _ | .convSB h _ | .mkS _ _ h _ _ _ => match h with | .val | .zero => false | _ => true
  | _ => false
def namesOf (l : List O) : Nat := if l.any (fun o => o.i.names) then l.length else 0

inductive Ex where
  | normal
  | exit (id : Nat)
  | ret

end Go.VL
