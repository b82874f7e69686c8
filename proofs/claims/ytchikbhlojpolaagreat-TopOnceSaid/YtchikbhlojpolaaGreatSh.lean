/- The words of the printed functions. Definitions alone. -/
import Derived.Test.YtchikbhlojpolaaGreatAb22
namespace Go.Ab
open Go
abbrev rt {S : Type} (x : AV) : MS S AV := ret x
abbrev Lp := (List AV → M Out) → List AV → M Out
abbrev KS (S : Type) := FuncId → List AV → MS S AV
abbrev LS (S : Type) := (List AV → MS S Out) → List AV → MS S Out
def fnR {S : Type} (m : MS S Out) : MS S AV := bnd m fun o => match o with
  | .ret vs => ret (packA vs)
  | _ => fail
def w0 {S : Type} (f : MS S Out) (_ : List AV) : MS S Out := f
def w1 {S : Type} (f : AV → MS S Out) (ws : List AV) : MS S Out := f (ws.getD 0 undefA)
def w2 {S : Type} (f : AV → AV → MS S Out) (ws : List AV) : MS S Out := f (ws.getD 0 undefA) (ws.getD 1 undefA)
def w3 {S : Type} (f : AV → AV → AV → MS S Out) (ws : List AV) : MS S Out := f (ws.getD 0 undefA) (ws.getD 1 undefA) (ws.getD 2 undefA)
def w4 {S : Type} (f : AV → AV → AV → AV → MS S Out) (ws : List AV) : MS S Out := f (ws.getD 0 undefA) (ws.getD 1 undefA) (ws.getD 2 undefA) (ws.getD 3 undefA)
def w5 {S : Type} (f : AV → AV → AV → AV → AV → MS S Out) (ws : List AV) : MS S Out := f (ws.getD 0 undefA) (ws.getD 1 undefA) (ws.getD 2 undefA) (ws.getD 3 undefA) (ws.getD 4 undefA)
def gv (want : Bool) (c : AV) : Option Bool := match c with
  | .bool b => some (b == want)
  | .tup [] => some false
  | _ => none
def gd {S : Type} (want : Bool) (c : AV) (m : MS S AV) : MS S AV := guarded (gv want c) m
def pk {S : Type} (c a b : AV) : MS S AV := match c with
  | .bool t => if t then ret a else ret b
  | _ => fail
def alP (cs : List AV) : M AV := bnd (alc cs 1 false) fun b => ret (.ptr (some (b, 0)))
def boxA (v : AV) : M AV := if v.cells.all AV.isCell then bnd (alc v.cells 1 false) fun b => ret (.ptr (some (b, 0))) else fail
def bldS {S : Type} (z : List AV) (pl : List (Nat × Nat)) (ps : List (Nat × AV)) : MS S AV := need (fillA (fun i => pl[i]?) z ps) fun cs => ret (.agg cs)
def bldR {S : Type} (z : List AV) (sz : Nat) (ps : List (Nat × AV)) : MS S AV := need (fillA (fun i => some (i * sz, sz)) z ps) fun cs => ret (.agg cs)
def bsA (z : List AV) (sz n : Nat) (ps : List (Nat × AV)) : M AV :=
  need ((fillA (fun i => some (i * sz, sz)) (repCells z n) ps).map (·, sz)) fun (cs, sz) => bnd (alc cs sz false) fun b => ret (.sl (some (b, 0)) n (some n))
def eqXt (tb tp ts tf ti : Bool) (a : AV) : Bool := match a with
  | .int _ _ => true
  | .str _ => true
  | .bool _ => tb
  | .ptr _ => tp
  | .sl _ _ _ => ts
  | .fn _ _ => tf
  | .nilfn => tf
  | .ifc _ _ => ti
  | .nilifc => ti
  | _ => false
def eqX (tb tp ts tf ti : Bool) (op : BinOp) (a b : AV) : M AV := if eqXt tb tp ts tf ti a then bin op a b else fail
def cl {S : Type} (K : FuncId → List AV → MS S AV) (f : AV) (vs : List AV) : MS S AV := match f with
  | .fn g caps => K g (vs ++ caps)
  | _ => fail
def cvT {S : Type} (x : AV) : MS S AV := match x with
  | .int k n => i2s (.int k n)
  | .str s => ret (.str s)
  | _ => fail
def cvB (x : AV) : M AV := match x with
  | .int k n => i2s (.int k n)
  | .str s => ret (.str s)
  | x => b2s x
def cvR (x : AV) : M AV := match x with
  | .int k n => i2s (.int k n)
  | .str s => ret (.str s)
  | x => r2s x
def cvSB (x : AV) : M AV := match x with
  | .str s => s2b (.str s)
  | _ => fail
def cvSR (x : AV) : M AV := match x with
  | .str s => s2r (.str s)
  | _ => fail
-- regions that draw
def rG {S : Type} (want : Bool) (c : AV) (m : MS S AV) (v : AV) : Option (MS S AV × AV) := if gv want c = some true then some (m, v) else none
noncomputable def cks : List (Option (M AV × AV)) → M Unit
  | [] => ret ()
  | r :: l => bnd (match r with | some (m, v) => chk m v | none => ret ()) fun _ => cks l
noncomputable def hv (m : M AV) (l : List (Option (M AV × AV))) : M AV := bnd m fun v => bnd (cks l) fun _ => ret v
abbrev Flt := Option (List AV × Nat × (Nat → AV))
def fl (sz : Nat) (f : Nat → M Out) : M Out := fun H => f H.nx { H with nx := H.nx + sz }
def fltC (cs : List AV) : Flt := some (cs, 1, fun b => .ptr (some (b, 0)))
def fltB (v : AV) : Flt := if v.cells.all AV.isCell then some (v.cells, 1, fun b => .ptr (some (b, 0))) else none
def fltS (z : List AV) (sz n : Nat) (ps : List (Nat × AV)) : Flt :=
  ((fillA (fun i => some (i * sz, sz)) (repCells z n) ps).map (·, sz)).map fun (cs, sz) => (cs, sz, fun b => .sl (some (b, 0)) n (some n))
def g0 : Nat → Option Blk := fun _ => none
def gP (b0 : Nat) (x : Flt) (G : Nat → Option Blk) : Nat → Option Blk := fun b => if b = b0 then x.map fun r => .cells r.1 r.2.1 false true else G b
def gD (n0 : Nat) (l : List Nat) (G : Nat → Option Blk) : Nat → Option Blk := fun b => if l.any (fun f => b == n0 + f) then none else G b
noncomputable def hvG (n0 : Nat) (l : List Nat) (G : Nat → Option Blk) (m : M AV) (r : List (Option (M AV × AV))) : M AV := bnd (mrg n0 l G) fun _ => hv m r
end Go.Ab
