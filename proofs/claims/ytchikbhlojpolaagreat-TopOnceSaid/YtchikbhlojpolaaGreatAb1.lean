/- The abstract machine: values, memory and evaluator in which there is no tape, no capacity of append's own and no order. Definitions alone. -/
import Derived.WalkKit
import Derived.Orders
namespace Go.Ab
open Go

abbrev Ref := Nat × Nat

inductive AV where
  | bool (b : Bool)
  | int (k : IntKind) (n : Int)
  | str (s : ByteArray)
  | ptr (a : Option Ref)
  | sl (a : Option Ref) (len : Nat) (cap : Option Nat)
  | fn (f : FuncId) (caps : List AV)
  | nilfn
  | nilifc
  | ifc (t : TypeId) (x : AV)
  | agg (cs : List AV)
  | tup (xs : List AV)
  deriving Inhabited

def undefA : AV := .tup []

def AV.cells : AV → List AV
  | .agg cs => cs
  | v => [v]

def AV.isCell : AV → Bool
  | .agg _ | .tup _ => false
  | _ => true

inductive Blk where
  | cells (cs : List AV) (es : Nat) (grow own : Bool)
  | iter (s : ByteArray) (pos : Nat)

structure AH where
  nx : Nat
  bk : Nat → Option Blk

def AH.set (H : AH) (b : Nat) (x : Option Blk) : AH := { H with bk := fun i => if i = b then x else H.bk i }

abbrev MS (S α : Type) := S → Option (α × S)
abbrev M (α : Type) := MS AH α
def ret {S α : Type} (a : α) : MS S α := fun H => some (a, H)
def bnd {S α β : Type} (x : MS S α) (f : α → MS S β) : MS S β := fun H =>
  match x H with
  | some (a, H') => f a H'
  | none => none
def fail {S α : Type} : MS S α := fun _ => none
def need {S α β : Type} (x : Option α) (f : α → MS S β) : MS S β :=
  match x with
  | some a => f a
  | none => fail
def guardM {S β : Type} (c : Bool) (x : MS S β) : MS S β := if c then x else fail

-- memory
def alc (cs : List AV) (es : Nat) (grow : Bool) : M Nat := fun H =>
  some (H.nx, { nx := H.nx + 1, bk := fun i => if i = H.nx then some (.cells cs es grow true) else H.bk i })
def AH.rd (H : AH) (r : Ref) (n : Nat) : Option (List AV) :=
  match H.bk r.1 with
  | some (.cells cs _ _ _) => if r.2 + n ≤ cs.length then some ((cs.drop r.2).take n) else none
  | _ => none
def AH.rd1 (H : AH) (r : Ref) : Option AV :=
  match H.bk r.1 with
  | some (.cells cs _ _ _) => cs[r.2]?
  | _ => none
def ldn (r : Ref) (n : Nat) : M (List AV) := fun H => (H.rd r n).map (·, H)
def ld1 (r : Ref) : M AV := fun H => (H.rd1 r).map (·, H)
def splice (cs : List AV) (o : Nat) (vs : List AV) : List AV := cs.take o ++ vs ++ cs.drop (o + vs.length)
def stn (r : Ref) (vs : List AV) : M Unit := fun H =>
  match H.bk r.1 with
  | some (.cells cs es g true) =>
    if r.2 + vs.length ≤ cs.length ∧ vs.all AV.isCell = true then some ((), H.set r.1 (some (.cells (splice cs r.2 vs) es g true))) else none
  | _ => none
def st1 (r : Ref) (v : AV) : M Unit := fun H =>
  match H.bk r.1 with
  | some (.cells cs es g true) =>
    if r.2 < cs.length ∧ v.isCell = true then some ((), H.set r.1 (some (.cells (cs.set r.2 v) es g true))) else none
  | _ => none
def AH.blk? (H : AH) (b : Nat) : Option (List AV × Nat × Bool × Bool) :=
  match H.bk b with
  | some (.cells cs es g o) => some (cs, es, g, o)
  | _ => none
def kil (b : Nat) : M Unit := fun H => some ((), H.set b none)

-- constants
def ofCell : Value → Option AV
  | .bool b => some (.bool b)
  | .int k n => some (.int k n)
  | .string s => some (.str s)
  | .pointer none => some (.ptr none)
  | .slice none 0 0 => some (.sl none 0 (some 0))
  | .nilFunc => some .nilfn
  | .nilIface => some .nilifc
  | _ => none
def ofCells : List Value → Option (List AV)
  | [] => some []
  | v :: vs => match ofCell v, ofCells vs with
    | some x, some xs => some (x :: xs)
    | _, _ => none
def ofVal : Value → Option AV
  | .agg cs => (ofCells cs.toList).map .agg
  | .tuple vs => if vs.size = 0 then some (.tup []) else none
  | v => ofCell v

-- types
def szOf (P : Program) (t : TypeId) : Option Nat := (P.info? t).map (·.size)
def aggT (P : Program) (t : TypeId) : Option Bool :=
  match P.underlying t with
  | some (.struct _) | some (.array _ _) => some true
  | some _ => some false
  | none => none
def zeroOf (P : Program) (t : TypeId) : Option AV :=
  match ((P.info? t).bind (·.zero)).bind ofVal with
  | some z => if z.cells.all AV.isCell = true then some z else none
  | none => none

-- operations on values
def nilchk {S : Type} : AV → MS S AV
  | .ptr (some r) => ret (.ptr (some r))
  | .fn f cs => ret (.fn f cs)
  | _ => fail
def fldA {S : Type} (off : Nat) : AV → MS S AV
  | .ptr (some r) => ret (.ptr (some (r.1, r.2 + off)))
  | _ => fail
def ld : AV → M AV
  | .ptr (some r) => ld1 r
  | _ => fail
def lda (n : Nat) : AV → M AV
  | .ptr (some r) => bnd (ldn r n) fun cs => ret (.agg cs)
  | _ => fail
def st (n : Nat) (a v : AV) : M AV :=
  match a, v with
  | .ptr (some r), .agg cs => if cs.length = n then bnd (stn r cs) fun _ => ret undefA else fail
  | .ptr (some r), v => if n = 1 then bnd (st1 r v) fun _ => ret undefA else fail
  | _, _ => fail
def inRange (i : Int) (n : Nat) : Bool := decide (0 ≤ i) && decide (i < (n : Int))
def idxS {S : Type} (esz : Nat) (x i : AV) : MS S AV :=
  match x, i with
  | .sl (some r) len _, .int _ n => if inRange n len then ret (.ptr (some (r.1, r.2 + n.toNat * esz))) else fail
  | _, _ => fail
def idxR {S : Type} (len esz : Nat) (x i : AV) : MS S AV :=
  match x, i with
  | .ptr (some r), .int _ n => if inRange n len then ret (.ptr (some (r.1, r.2 + n.toNat * esz))) else fail
  | _, _ => fail
def strIdx {S : Type} (x i : AV) : MS S AV :=
  match x, i with
  | .str s, .int _ n => if 0 ≤ n then (match s[n.toNat]? with | some b => ret (.int .u8 b.toNat) | none => fail) else fail
  | _, _ => fail
def partA {S : Type} (agg : Bool) (sz : Nat) (cs : List AV) (off : Nat) : MS S AV :=
  if agg then ret (.agg ((cs.drop off).take sz)) else need cs[off]? ret
def fldV {S : Type} (agg : Bool) (sz off : Nat) : AV → MS S AV
  | .agg cs => if off + sz ≤ cs.length then partA agg sz cs off else fail
  | _ => fail
def idxV {S : Type} (len : Nat) (agg : Bool) (sz : Nat) (x i : AV) : MS S AV :=
  match x, i with
  | .agg cs, .int _ n => if inRange n len && decide (n.toNat * sz + sz ≤ cs.length) then partA agg sz cs (n.toNat * sz) else fail
  | _, _ => fail
def pickA {S : Type} (c a b : AV) : MS S AV :=
  match c with
  | .bool t => ret (if t then a else b)
  | _ => fail

def shiftA (op : BinOp) (k : IntKind) (x y : Int) : Option AV :=
  if y < 0 then none else
  match op with
  | .shl => some (.int k (k.wrap (x * 2 ^ (min y.toNat k.bits))))
  | .shr => some (.int k (x.fdiv (2 ^ (min y.toNat k.bits))))
  | _ => none
def bitsA (op : BinOp) (k : IntKind) (x y : Int) : Option AV :=
  match op with
  | .and => some (.int k (k.wrap (BitVec.ofInt k.bits x &&& BitVec.ofInt k.bits y).toNat))
  | .or => some (.int k (k.wrap (BitVec.ofInt k.bits x ||| BitVec.ofInt k.bits y).toNat))
  | .xor => some (.int k (k.wrap (BitVec.ofInt k.bits x ^^^ BitVec.ofInt k.bits y).toNat))
  | .andNot => some (.int k (k.wrap (BitVec.ofInt k.bits x &&& ~~~ BitVec.ofInt k.bits y).toNat))
  | _ => none
def intA (op : BinOp) (k : IntKind) (x y : Int) : Option AV :=
  match op with
  | .add => some (.int k (k.wrap (x + y)))
  | .sub => some (.int k (k.wrap (x - y)))
  | .mul => some (.int k (k.wrap (x * y)))
  | .quo => if y = 0 then none else some (.int k (k.wrap (x.tdiv y)))
  | .rem => if y = 0 then none else some (.int k (x.tmod y))
  | .eql => some (.bool (x == y))
  | .neq => some (.bool (x != y))
  | .lss => some (.bool (decide (x < y)))
  | .leq => some (.bool (decide (x ≤ y)))
  | .gtr => some (.bool (decide (x > y)))
  | .geq => some (.bool (decide (x ≥ y)))
  | .and => bitsA .and k x y
  | .or => bitsA .or k x y
  | .xor => bitsA .xor k x y
  | .andNot => bitsA .andNot k x y
  | _ => none
def strA (op : BinOp) (x y : ByteArray) : Option AV :=
  match op with
  | .add => if x.size + y.size ≤ 4294967296 then some (.str (x ++ y)) else none
  | .eql => some (.bool (x.toList == y.toList))
  | .neq => some (.bool (!(x.toList == y.toList)))
  | .lss => some (.bool (Op.bytesLess x.toList y.toList))
  | _ => none
/-- == on what is no number and no string: nil against something; bools. -/
def eqA : AV → AV → Option Bool
  | .bool a, .bool b => some (a == b)
  | .ptr none, .ptr b => some b.isNone
  | .ptr (some _), .ptr none => some false
  | .sl none _ _, .sl b _ _ => some b.isNone
  | .sl (some _) _ _, .sl none _ _ => some false
  | .nilfn, .nilfn => some true
  | .nilfn, .fn _ _ => some false
  | .fn _ _, .nilfn => some false
  | .nilifc, .nilifc => some true
  | .nilifc, .ifc _ _ => some false
  | .ifc _ _, .nilifc => some false
  | _, _ => none
def binA (op : BinOp) (x y : AV) : Option AV :=
  match op, x, y with
  | .shl, .int k a, .int _ b => shiftA .shl k a b
  | .shr, .int k a, .int _ b => shiftA .shr k a b
  | op, .int k a, .int k' b => if k = k' then intA op k a b else none
  | op, .str a, .str b => strA op a b
  | .eql, x, y => (eqA x y).map .bool
  | .neq, x, y => (eqA x y).map fun b => .bool (!b)
  | _, _, _ => none
def bin {S : Type} (op : BinOp) (x y : AV) : MS S AV := need (binA op x y) ret
/-- Is the type one whose values '==' compares in the way of eqA? -/
def eqTok (P : Program) (op : BinOp) (t : TypeId) (x y : Operand) (a : AV) : Bool :=
  match op with
  | .eql | .neq =>
    match a with
    | .int _ _ => true
    | .str _ => true
    | .bool _ => match P.underlying t with | some .bool => true | _ => false
    | .ptr _ => match P.underlying t with | some (.pointer _) => true | _ => false
    | .sl _ _ _ => match P.underlying t with | some (.slice _) => true | _ => false
    | .fn _ _ => match P.underlying t with | some (.func _ _ _) => true | _ => false
    | .nilfn => match P.underlying t with | some (.func _ _ _) => true | _ => false
    | .ifc _ _ => match P.underlying t with | some (.interface _) => isK x || isK y | _ => false
    | .nilifc => match P.underlying t with | some (.interface _) => isK x || isK y | _ => false
    | _ => false
  | _ => true
where isK : Operand → Bool
  | .const _ => true
  | _ => false
def unA (op : UnOp) (x : AV) : Option AV :=
  match op, x with
  | .neg, .int k n => some (.int k (k.wrap (0 - n)))
  | .xor, .int k n => bitsA .xor k (if k.signed then -1 else k.max) n
  | .not, .bool b => some (.bool !b)
  | _, _ => none
def un {S : Type} (op : UnOp) (x : AV) : MS S AV := need (unA op x) ret

def byteCells (s : ByteArray) : List AV := s.data.toList.map fun b => .int .u8 b.toNat
def bytesOf : List AV → Option (List UInt8)
  | [] => some []
  | .int .u8 n :: l => (bytesOf l).map (UInt8.ofNat n.toNat :: ·)
  | _ :: _ => none
def runesOf : List AV → Option ByteArray
  | [] => some .empty
  | .int .i32 n :: l => (runesOf l).map (Utf8.encode n ++ ·)
  | _ :: _ => none
def runeCells (s : ByteArray) : (bound i : Nat) → List AV
  | 0, _ => []
  | bound + 1, i => if i < s.size then .int .i32 (Int.ofNat (Utf8.decode s i).1) :: runeCells s bound (i + (Utf8.decode s i).2) else []

def cvI {S : Type} (k : IntKind) : AV → MS S AV
  | .int _ n => ret (.int k (k.wrap n))
  | _ => fail
def s2b : AV → M AV
  | .str s => if s.size ≤ 4294967296 then bnd (alc (byteCells s) 1 true) fun b => ret (.sl (some (b, 0)) s.size none) else fail
  | _ => fail
def s2r : AV → M AV
  | .str s => if s.size ≤ 4294967296 then bnd (alc (runeCells s s.size 0) 1 true) fun b => ret (.sl (some (b, 0)) (runeCells s s.size 0).length none) else fail
  | _ => fail
def b2s : AV → M AV
  | .sl none _ _ => ret (.str .empty)
  | .sl (some r) len _ => bnd (ldn r len) fun cs => need (bytesOf cs) fun l => ret (.str ⟨⟨l⟩⟩)
  | _ => fail
def r2s : AV → M AV
  | .sl none _ _ => ret (.str .empty)
  | .sl (some r) len _ => bnd (ldn r len) fun cs => need (runesOf cs) fun s => ret (.str s)
  | _ => fail
def i2s {S : Type} : AV → MS S AV
  | .int _ n => ret (.str (Utf8.encode n))
  | _ => fail

def repCells (zs : List AV) : Nat → List AV
  | 0 => []
  | n + 1 => zs ++ repCells zs n
def mkS (esz bytes : Nat) (zs : List AV) (l c : AV) : M AV :=
  match l, c with
  | .int _ l, .int _ c =>
    if 0 ≤ l ∧ l ≤ c ∧ c ≤ 4294967296 ∧ bytes ≤ 4096 then
      bnd (alc (repCells zs c.toNat) esz false) fun b => ret (.sl (some (b, 0)) l.toNat (some c.toNat))
    else fail
  | _, _ => fail
def boundA (dflt : Nat) (most : Nat) : Option AV → Option Nat
  | none => some dflt
  | some (.int _ n) => if 0 ≤ n ∧ n ≤ (most : Int) then some n.toNat else none
  | some _ => none
/-- s[lo:hi:mx] of a slice whose elements have esz cells. -/
def slS (esz : Nat) (x : AV) (lo hi mx : Option AV) : M AV :=
  match x with
  | .sl a len (some c) =>
    need (boundA c c mx) fun m => need (boundA len m hi) fun h => need (boundA 0 h lo) fun l =>
      ret (.sl (if m = l then a else a.map fun r => (r.1, r.2 + l * esz)) (h - l) (some (m - l)))
  | .sl (some r) len none => fun H =>
    match H.blk? r.1 with
    | some (cs, es, _, _) =>
      if es = esz ∧ 0 < esz ∧ len * esz + r.2 ≤ cs.length then
        let k := (cs.length - r.2) / esz
        match mx with
        | none => (need (boundA len k hi) fun h => need (boundA 0 h lo) fun l => ret (.sl (some (r.1, r.2 + l * esz)) (h - l) none)) H
        | some mx => (need (boundA k k (some mx)) fun m => need (boundA len m hi) fun h => need (boundA 0 h lo) fun l =>
            ret (.sl (some (if m = l then r else (r.1, r.2 + l * esz))) (h - l) (some (m - l)))) H
      else none
    | none => none
  | _ => fail
def slStr {S : Type} (x : AV) (lo hi : Option AV) : MS S AV :=
  match x with
  | .str s => need (boundA s.size s.size hi) fun h => need (boundA 0 h lo) fun l => ret (.str (s.extract l h))
  | _ => fail
def slR {S : Type} (n esz : Nat) (x : AV) (lo hi mx : Option AV) : MS S AV :=
  match x with
  | .ptr (some r) =>
    need (boundA n n mx) fun m => need (boundA n m hi) fun h => need (boundA 0 h lo) fun l =>
      ret (.sl (some (if m = l then r else (r.1, r.2 + l * esz))) (h - l) (some (m - l)))
  | _ => fail

def srcLen : AV → Option Nat
  | .sl _ n _ => some n
  | .str s => some s.size
  | _ => none
def srcCells (esz n : Nat) : AV → M (List AV)
  | .sl none _ _ => ret []
  | .sl (some r) _ _ => ldn r (n * esz)
  | .str s => if esz = 1 then ret ((byteCells s).take n) else fail
  | _ => fail
/-- append of k elements whose cells are 'new'. -/
def appCells (esz bytes : Nat) (x : AV) (k : Nat) (new : List AV) : M AV :=
  match x with
  | .sl a len cap =>
    if k = 0 then ret x else
    if len + k ≤ 4294967296 ∧ bytes ≤ 4096 ∧ 0 < bytes ∧ 0 < esz ∧ new.length = k * esz ∧ new.all AV.isCell = true then
      match a, cap with
      | none, _ => bnd (alc new esz true) fun b => ret (.sl (some (b, 0)) (len + k) none)
      | some r, some c =>
        if len + k ≤ c then bnd (stn (r.1, r.2 + len * esz) new) fun _ => ret (.sl (some r) (len + k) (some c))
        else bnd (ldn r (len * esz)) fun old => bnd (alc (old ++ new) esz true) fun b => ret (.sl (some (b, 0)) (len + k) none)
      | some r, none => fun H =>
        match H.blk? r.1 with
        | some (cs, es, g, own) =>
          if es = esz ∧ r.2 + len * esz ≤ cs.length then
            if r.2 + (len + k) * esz ≤ cs.length then
              (bnd (stn (r.1, r.2 + len * esz) new) fun _ => ret (.sl (some r) (len + k) none)) H
            else if g = true ∧ own = true then
              (bnd (kil r.1) fun _ => bnd (alc ((cs.drop r.2).take (len * esz) ++ new) esz true) fun b => ret (.sl (some (b, 0)) (len + k) none)) H
            else none
          else none
        | none => none
    else fail
  | _ => fail
def app (esz bytes : Nat) (x y : AV) : M AV :=
  need (srcLen y) fun k => bnd (srcCells esz k y) fun new => appCells esz bytes x k new
def appZ (esz bytes : Nat) (zs : List AV) (x y : AV) : M AV :=
  match y with
  | .int _ n => if 0 ≤ n ∧ n ≤ 4294967296 then appCells esz bytes x n.toNat (repCells zs n.toNat) else fail
  | _ => fail
def cpy (esz : Nat) (x y : AV) : M AV :=
  match x with
  | .sl a len _ =>
    need (srcLen y) fun k => bnd (srcCells esz (min k len) y) fun new =>
      match a with
      | none => ret (.int .i64 (min k len : Nat))
      | some r => if min k len = 0 then ret (.int .i64 0) else bnd (stn r new) fun _ => ret (.int .i64 (min k len : Nat))
  | _ => fail
def clr (zs : List AV) : AV → M AV
  | .sl none _ _ => ret undefA
  | .sl (some r) n _ => if n = 0 then ret undefA else bnd (stn r (repCells zs n)) fun _ => ret undefA
  | _ => fail
def lnS {S : Type} : AV → MS S AV
  | .sl _ n _ => ret (.int .i64 n)
  | _ => fail
def lnStr {S : Type} : AV → MS S AV
  | .str s => ret (.int .i64 s.size)
  | _ => fail
def capA {S : Type} : AV → MS S AV
  | .sl _ _ (some c) => ret (.int .i64 c)
  | _ => fail
def mnA : List AV → Option AV
  | [] => none
  | x :: l => l.foldl (fun a y => match a, y with | some (.int k a), .int _ y => some (.int k (if y < a then y else a)) | _, _ => none) (some x)
def mxA : List AV → Option AV
  | [] => none
  | x :: l => l.foldl (fun a y => match a, y with | some (.int k a), .int _ y => some (.int k (if y > a then y else a)) | _, _ => none) (some x)
def rngS : AV → M AV
  | .str s => fun H => some (.ptr (some (H.nx, 0)), { nx := H.nx + 1, bk := fun i => if i = H.nx then some (.iter s 0) else H.bk i })
  | _ => fail
def nextS : AV → M AV
  | .ptr (some (b, 0)) => fun H =>
    match H.bk b with
    | some (.iter s pos) =>
      if pos < s.size then
        some (.tup [.bool true, .int .i64 pos, .int .i32 (Utf8.decode s pos).1], H.set b (some (.iter s (pos + (Utf8.decode s pos).2))))
      else some (.tup [.bool false], H)
    | _ => none
  | _ => fail
def extA {S : Type} (i : Nat) : AV → MS S AV
  | .tup xs => need xs[i]? ret
  | _ => fail

/-- cells of a value being built: parts laid at their places. -/
def fillA (place : Nat → Option (Nat × Nat)) (cells : List AV) : List (Nat × AV) → Option (List AV)
  | [] => some cells
  | (i, v) :: rest =>
    match place i with
    | none => none
    | some (off, size) =>
      if v.cells.length ≠ size || decide (off + v.cells.length > cells.length) || !v.cells.all AV.isCell then none
      else fillA place (splice cells off v.cells) rest

end Go.Ab
