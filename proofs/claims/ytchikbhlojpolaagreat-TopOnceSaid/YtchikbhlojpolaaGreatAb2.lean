/- The abstract machine: the evaluator of the model's own code. Definitions alone. -/
import Derived.Test.YtchikbhlojpolaaGreatAb1
namespace Go.Ab
open Go

abbrev Env := List (Nat × AV)
def Env.get : Env → Nat → Option AV
  | [], _ => none
  | (k, v) :: E, t => if k = t then some v else Env.get E t
def Env.put (E : Env) (dst : Option Nat) (v : AV) : Env :=
  match dst with
  | some d => (d, v) :: E
  | none => E
abbrev Look := Nat → Option AV
def opv (E : Look) : Operand → Option AV
  | .tmp t => E t
  | .const v => ofVal v
  | .func f => some (.fn f [])
  | .global _ => none
def opvs (E : Look) : List Operand → Option (List AV)
  | [] => some []
  | x :: l => match opv E x, opvs E l with
    | some v, some vs => some (v :: vs)
    | _, _ => none
def opvo (E : Look) : Option Operand → Option (Option AV)
  | none => some none
  | some x => (opv E x).map some

abbrev Calls? := FuncId → List AV → M AV

/-- What an element's type says: its cells, its bytes. -/
def elemSz (P : Program) (t : TypeId) : Option (TypeId × Nat × Nat) :=
  match P.underlying t with
  | some (.slice e) => (P.info? e).map fun i => (e, i.size, i.bytes)
  | _ => none

def evBuiltin (P : Program) (b : Builtin) (argTypes : Array TypeId) (vs : List AV) : M AV :=
  match b, vs with
  | .append, [x, y] =>
    need argTypes[0]? fun t => need (elemSz P t) fun (e, sz, by') =>
      need argTypes[1]? fun u => match P.underlying u with
        | some (.int _) => need (zeroOf P e) fun z => if z.cells.length = sz then appZ sz by' z.cells x y else fail
        | some _ => need (zeroOf P e) fun z => if z.cells.length = sz then app sz by' x y else fail
        | none => fail
  | .copy, [x, y] => need argTypes[0]? fun t => need (elemSz P t) fun (_, sz, _) => cpy sz x y
  | .clear, [x] => need argTypes[0]? fun t => need (elemSz P t) fun (e, sz, _) => need (zeroOf P e) fun z => if z.cells.length = sz then clr z.cells x else fail
  | .len, [x] => need argTypes[0]? fun t => match P.underlying t with
    | some (.slice _) => lnS x
    | some .string => lnStr x
    | some (.array n _) => ret (.int .i64 n)
    | some (.pointer a) => match P.underlying a with | some (.array n _) => ret (.int .i64 n) | _ => fail
    | _ => fail
  | .cap, [x] => need argTypes[0]? fun t => match P.underlying t with
    | some (.slice _) => capA x
    | _ => fail
  | .min, l => need (mnA l) ret
  | .max, l => need (mxA l) ret
  | _, _ => fail

def evConv (P : Program) (src dst : TypeId) (x : AV) : M AV :=
  match P.underlying src, P.underlying dst, x with
  | some _, some (.int k), .int k' n => cvI k (.int k' n)
  | some _, some .string, .int k n => i2s (.int k n)
  | some _, some .string, .str s => ret (.str s)
  | some _, some (.slice e), .str s => match P.underlying e with
    | some (.int .u8) => s2b (.str s)
    | some (.int .i32) => s2r (.str s)
    | _ => fail
  | some (.slice e), some .string, x => match P.underlying e with
    | some (.int .u8) => b2s x
    | some (.int .i32) => r2s x
    | _ => fail
  | _, _, _ => fail

def places (P : Program) : List Field → Option (List (Nat × Nat))
  | [] => some []
  | f :: fs => match P.info? f.type, places P fs with
    | some i, some l => some ((f.offset, i.size) :: l)
    | _, _ => none

/-- The parts of a literal, with their values. -/
def partsA (E : Look) : List (Nat × Operand) → Option (List (Nat × AV))
  | [] => some []
  | (i, x) :: l => match opv E x, partsA E l with
    | some v, some vs => some ((i, v) :: vs)
    | _, _ => none

def evBuild (P : Program) (t : TypeId) (ps : List (Nat × AV)) : M AV :=
  need (zeroOf P t) fun z => match P.underlying t with
    | some (.struct fs) => need (places P fs.toList) fun pl => need (fillA (fun i => pl[i]?) z.cells ps) fun cs => ret (.agg cs)
    | some (.array _ e) => need (szOf P e) fun sz => need (fillA (fun i => some (i * sz, sz)) z.cells ps) fun cs => ret (.agg cs)
    | _ => fail
/-- The cells of a slice literal. -/
def sliceCells (P : Program) (t : TypeId) (n : Nat) (ps : List (Nat × AV)) : Option (List AV × Nat) :=
  match elemSz P t with
  | some (e, sz, _) =>
    if n * sz ≤ 16777216 then
      match (if n * sz = 0 then some (.agg []) else zeroOf P e) with
      | some z => if n * sz = 0 ∨ z.cells.length = sz then (fillA (fun i => some (i * sz, sz)) (repCells z.cells (if n * sz = 0 then 0 else n)) ps).map (·, sz) else none
      | none => none
    else none
  | none => none
def evBuildSlice (P : Program) (t : TypeId) (n : Nat) (ps : List (Nat × AV)) : M AV :=
  need (sliceCells P t n ps) fun (cs, sz) => bnd (alc cs sz false) fun b => ret (.sl (some (b, 0)) n (some n))

def fieldOf (P : Program) (s : TypeId) (f : Nat) : Option Field :=
  match P.underlying s with
  | some (.struct fs) => fs[f]?
  | _ => none

def evOp (P : Program) (K : Calls?) (E : Look) (o : Oper) : M AV :=
  match o.op with
  | .move x | .assign x => need (opv E x) ret
  | .pick c a b => need (opv E c) fun c => match c with
    | .bool t => if t then need (opv E a) ret else need (opv E b) ret
    | _ => fail
  | .alloc e => need (zeroOf P e) fun z => bnd (alc z.cells 1 false) fun b => ret (.ptr (some (b, 0)))
  | .box _ x => need (opv E x) fun v => if v.cells.all AV.isCell then bnd (alc v.cells 1 false) fun b => ret (.ptr (some (b, 0))) else fail
  | .build t ps => need (partsA E ps.toList) (evBuild P t)
  | .buildSlice t n ps => need (partsA E ps.toList) (evBuildSlice P t n)
  | .load t a => need (opv E a) fun a => need (aggT P t) fun g => if g then need (szOf P t) fun n => lda n a else ld a
  | .store t a x => need (opv E a) fun a => need (opv E x) fun v => need (szOf P t) fun n => st n a v
  | .nilCheck x => need (opv E x) nilchk
  | .binOp op t x y _ => need (opv E x) fun a => need (opv E y) fun b => if eqTok P op t x y a then bin op a b else fail
  | .unOp op _ x => need (opv E x) (un op)
  | .convert s d x => need (opv E x) (evConv P s d)
  | .makeFunc (.func f) first caps => if first.size = 0 then need (opvs E caps.toList) fun cs => ret (.fn f cs) else fail
  | .makeSlice t l c => need (opv E l) fun l => need (opv E c) fun c => need (elemSz P t) fun (e, sz, by') =>
      need (zeroOf P e) fun z => if z.cells.length = sz then mkS sz by' z.cells l c else fail
  | .slice t x lo hi mx => need (opv E x) fun x => need (opvo E lo) fun lo => need (opvo E hi) fun hi => need (opvo E mx) fun mx =>
      if mx.isSome && hi.isNone then fail else match P.underlying t with
      | some (.array n e) => need (szOf P e) fun sz => slR n sz x lo hi mx
      | some .string => match mx with | none => slStr x lo hi | some _ => fail
      | some (.slice e) => need (szOf P e) fun sz => slS sz x lo hi mx
      | _ => fail
  | .fieldAddr s x f => need (opv E x) fun a => need (fieldOf P s f) fun fd => need (szOf P fd.type) fun n => if n = 0 then fail else fldA fd.offset a
  | .field s x f => need (opv E x) fun a => need (fieldOf P s f) fun fd => need (szOf P fd.type) fun n => need (aggT P fd.type) fun g => fldV g n fd.offset a
  | .indexAddr t x i => need (opv E x) fun x => need (opv E i) fun i => match P.underlying t with
      | some (.slice e) => need (szOf P e) fun sz => idxS sz x i
      | some (.array n e) => need (szOf P e) fun sz => idxR n sz x i
      | _ => fail
  | .index t x i => need (opv E x) fun x => need (opv E i) fun i => match P.underlying t with
      | some .string => strIdx x i
      | some (.array n e) => need (szOf P e) fun sz => need (aggT P e) fun g => idxV n g sz x i
      | _ => fail
  | .range t x => need (opv E x) fun x => match P.underlying t with
      | some .string => rngS x
      | _ => fail
  | .next it true => need (opv E it) nextS
  | .extract t i => need (opv E t) (extA i)
  | .call c => match c.callee with
      | .value f => need (opv E f) fun f => need (opvs E c.args.toList) fun vs => match f with
          | .fn g caps => K g (vs ++ caps)
          | _ => fail
      | .builtin b => need (opvs E c.args.toList) (evBuiltin P b c.argTypes)
      | .invoke _ _ => fail
  | _ => fail

/-- A guard: is the operation wanted? none: it cannot be told. -/
def guardV (ops : Array Oper) (E : Look) (o : Oper) : Option Bool :=
  match o.guard with
  | none => some true
  | some (j, want) =>
    match (ops[j]?).bind (·.dst) with
    | none => none
    | some d => match E d with
      | some (.bool b) => some (b == want)
      | some (.tup []) => some false
      | _ => none
def guarded {S : Type} (g : Option Bool) (x : MS S AV) : MS S AV :=
  match g with
  | some true => x
  | some false => ret undefA
  | none => fail

def evOps {α : Type} (P : Program) (K : Calls?) (ops : Array Oper) : List Oper → (Env → M α) → Env → M α
  | [], k, E => k E
  | o :: l, k, E => bnd (guarded (guardV ops E.get o) (evOp P K E.get o)) fun v => evOps P K ops l k (E.put o.dst v)

-- regions that draw their order

inductive Cls where
  | pure | load | flt | heavy
  deriving DecidableEq

def clsOf (P : Program) (o : Oper) : Cls :=
  match o.op with
  | .move _ | .assign _ | .pick .. | .build .. | .nilCheck _ | .binOp .. | .unOp .. | .makeFunc .. | .slice .. | .fieldAddr .. | .field .. | .indexAddr .. | .index .. | .extract .. => .pure
  | .convert s d _ => match P.underlying s, P.underlying d with
    | some (.slice _), _ => .load
    | _, some (.slice _) => .flt
    | _, _ => .pure
  | .load .. => .load
  | .alloc _ | .box .. | .buildSlice .. | .makeSlice .. => .flt
  | .call { callee := .builtin .len, .. } | .call { callee := .builtin .cap, .. } | .call { callee := .builtin .min, .. } | .call { callee := .builtin .max, .. } => .pure
  | _ => .heavy

inductive Out where
  | nrm (vs : List AV)
  | ext (id : Nat) (vs : List AV)
  | ret (vs : List AV)

/-- A region's plan, as it is written down: the order; which operations may make their block at any time; for each one those of them that it needs, the loads that it must leave as they are, and what comes before it. -/
structure PlanL where
  order : List Nat
  flt : List Nat
  needs : List (List Nat)
  keeps : List (List Nat)
  pre : List (List Nat)

inductive Ann where
  | nil
  | draw (q : PlanL)
  | seq (a b : Ann)
  | cond (ks : List Nat) (a b : Ann)
  | block (ks : List Nat) (a : Ann)
  | loop (ks : List Nat) (a : Ann)

def pick (E : Env) : List Nat → Option (List AV)
  | [] => some []
  | k :: ks => match E.get k, pick E ks with
    | some v, some vs => some (v :: vs)
    | _, _ => none
/-- The slots ks, bound to the values of a list. -/
def emb : List Nat → Nat → List AV → Env
  | [], _, _ => []
  | k :: ks, i, ws => (k, ws.getD i undefA) :: emb ks (i + 1) ws
def dropE (wr : List Nat) : Env → Env
  | [] => []
  | (k, v) :: E => if wr.contains k then dropE wr E else (k, v) :: dropE wr E
def writes : Code → List Nat
  | .region _ ops _ => ops.toList.filterMap (·.dst)
  | .seq a b => writes a ++ writes b
  | .cond _ a b => writes a ++ writes b
  | .block _ a | .loop a | .scope a => writes a
  | _ => []
def after (wr ks : List Nat) (ws : List AV) (E : Env) : Env := emb ks 0 ws ++ dropE wr E
def fin (ks : List Nat) (E : Env) : M Out := need (pick E ks) fun ws => ret (.nrm ws)
/-- Go on behind a part that may have left. -/
def dsp {S : Type} (k : List AV → MS S Out) : Out → MS S Out
  | .nrm ws => k ws
  | o => ret o
def dspB {S : Type} (id : Nat) (k : List AV → MS S Out) : Out → MS S Out
  | .nrm ws => k ws
  | .ext i ws => if i = id then k ws else ret (.ext i ws)
  | .ret vs => ret (.ret vs)
def iteM {S α : Type} (c : AV) (x y : MS S α) : MS S α :=
  match c with
  | .bool t => if t then x else y
  | _ => fail

def resA (P : Program) (E : Env) : List ResultVar → M (List AV)
  | [] => Ab.ret []
  | .tmp t :: l => need (E.get t) fun v => bnd (resA P E l) fun vs => Ab.ret (v :: vs)
  | .cell a t :: l => need (E.get a) fun a => need (aggT P t) fun g =>
      bnd (if g then need (szOf P t) fun n => lda n a else ld a) fun v => bnd (resA P E l) fun vs => Ab.ret (v :: vs)

structure Cfg where
  K : Calls?
  L : (List AV → M Out) → List AV → M Out
  D : PlanL → Program → Calls? → Array Oper → (Env → M Out) → Env → M Out   -- regions that draw

def evK (P : Program) (C : Cfg) (rs : List ResultVar) : Code → Ann → List (Nat × List Nat) → (Env → M Out) → Env → M Out
  | .skip, _, _, k, E => k E
  | .label _, _, _, k, E => k E
  | .region _ ops false, _, _, k, E => evOps P C.K ops ops.toList k E
  | .region _ ops true, .draw q, _, k, E => C.D q P C.K ops k E
  | .seq a b, .seq x y, B, k, E => evK P C rs a x B (fun E => evK P C rs b y B k E) E
  | .cond c a b, .cond ks x y, B, k, E =>
    need (opv E.get c) fun c => bnd (iteM c (evK P C rs a x B (fin ks) E) (evK P C rs b y B (fin ks) E))
      (dsp fun ws => k (after (writes a ++ writes b) ks ws E))
  | .block id a, .block ks x, B, k, E =>
    bnd (evK P C rs a x ((id, ks) :: B) (fin ks) E) (dspB id fun ws => k (after (writes a) ks ws E))
  | .loop a, .loop ks x, B, k, E =>
    need (pick E ks) fun ws => bnd (C.L (fun ws => evK P C rs a x B (fin ks) (after (writes a) ks ws E)) ws)
      (dsp fun ws => k (after (writes a) ks ws E))
  | .exit id, _, B, _, E => need (B.lookup id) fun ks => need (pick E ks) fun ws => ret (.ext id ws)
  | .ret, _, _, _, E => bnd (resA P E rs) fun vs => ret (.ret vs)
  | _, _, _, _, _ => fail

def loopN {S : Type} : Nat → (List AV → MS S Out) → List AV → MS S Out
  | 0, _, _ => fail
  | n + 1, f, ws => bnd (f ws) fun o => match o with
    | .nrm ws => loopN n f ws
    | o => ret o

def packA : List AV → AV
  | [v] => v
  | vs => .tup vs

def argE : Nat → List AV → Env
  | _, [] => []
  | i, v :: vs => (i, v) :: argE (i + 1) vs

def body (P : Program) (C : Cfg) (A : Ann) (fn : Func) (args : List AV) : M AV :=
  match fn.body with
  | none => fail
  | some c => if ((writes c).all fun d => decide (d < fn.ntmps)) && decide (args.length ≤ fn.ntmps) then bnd (evK P C fn.results.toList c A [] (fun E => bnd (resA P E fn.results.toList) fun vs => ret (.ret vs)) (argE 0 args))
      fun o => match o with
        | .ret vs => ret (packA vs)
        | _ => fail
    else fail

/-- The evaluator, with fuel for loops and calls. A: what each function's code is annotated with. -/
def run (D : PlanL → Program → Calls? → Array Oper → (Env → M Out) → Env → M Out) (A : FuncId → Ann) (P : Program) : Nat → FuncId → List AV → M AV
  | 0, _, _ => fail
  | n + 1, f, args =>
    match P.funcs[f]? with
    | none => fail
    | some fn => if fn.name = "runtime.NumGoroutine" then fail else body P { K := run D A P n, L := loopN n, D := D } (A f) fn args

end Go.Ab
