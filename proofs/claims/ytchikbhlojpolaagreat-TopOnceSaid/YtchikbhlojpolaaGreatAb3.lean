/- The abstract machine: how its values and its memory stand for the model's. -/
import Derived.Test.YtchikbhlojpolaaGreatAb2
namespace Go.Ab
open Go Go.RowKit

structure Loc where
  blk : Nat
  sh : Nat
  ext : Nat
  top : Nat
  es : Nat

abbrev Mu := Nat → Option Loc
def Le (μ μ' : Mu) : Prop := ∀ b l, μ b = some l → μ' b = some l
theorem Le.refl (μ : Mu) : Le μ μ := fun _ _ h => h
theorem Le.trans {a b c : Mu} (h : Le a b) (k : Le b c) : Le a c := fun x l e => k x l (h x l e)

mutual
inductive VR (μ : Mu) : AV → Value → Prop
  | bool (b : Bool) : VR μ (.bool b) (.bool b)
  | int (k : IntKind) (n : Int) : VR μ (.int k n) (.int k n)
  | str (s : ByteArray) : VR μ (.str s) (.string s)
  | ptr0 : VR μ (.ptr none) (.pointer none)
  | ptr {b o : Nat} {l : Loc} (h : μ b = some l) : VR μ (.ptr (some (b, o))) (.pointer (some ⟨l.blk, l.sh + o, none⟩))
  | sl0 : VR μ (.sl none 0 (some 0)) (.slice none 0 0)
  | slX {b o len c : Nat} {l : Loc} (h : μ b = some l) (hc : len ≤ c) :
      VR μ (.sl (some (b, o)) len (some c)) (.slice (some ⟨l.blk, l.sh + o, none⟩) len c)
  | slX0 {b o : Nat} {l : Loc} {a : Addr} (h : μ b = some l) : VR μ (.sl (some (b, o)) 0 (some 0)) (.slice (some a) 0 0)
  | slU {b o len c : Nat} {l : Loc} (h : μ b = some l) (h1 : o + len * l.es ≤ l.ext) (h2 : l.ext ≤ o + c * l.es) (h3 : l.sh + o + c * l.es ≤ l.top) (h4 : len ≤ c) :
      VR μ (.sl (some (b, o)) len none) (.slice (some ⟨l.blk, l.sh + o, none⟩) len c)
  | slE {b o : Nat} {l : Loc} {a : Addr} (h : μ b = some l) (he : l.ext ≤ o) : VR μ (.sl (some (b, o)) 0 none) (.slice (some a) 0 0)
  | fn {f : FuncId} {cs : List AV} {vs : List Value} (h : VRL μ cs vs) : VR μ (.fn f cs) (.func (.func f) #[] ⟨vs⟩)
  | nilfn : VR μ .nilfn .nilFunc
  | nilifc : VR μ .nilifc .nilIface
  | ifc {t : TypeId} {x : AV} {v : Value} (h : VR μ x v) : VR μ (.ifc t x) (.iface t v)
  | agg {cs : List AV} {vs : List Value} (h : VRL μ cs vs) (hc : cs.all AV.isCell = true) : VR μ (.agg cs) (.agg ⟨vs⟩)
  | tup {cs : List AV} {vs : List Value} (h : VRL μ cs vs) : VR μ (.tup cs) (.tuple ⟨vs⟩)
inductive VRL (μ : Mu) : List AV → List Value → Prop
  | nil : VRL μ [] []
  | cons {x : AV} {v : Value} {xs : List AV} {vs : List Value} (h : VR μ x v) (t : VRL μ xs vs) : VRL μ (x :: xs) (v :: vs)
end

mutual
theorem VR.mono {μ μ' : Mu} (hl : Le μ μ') : ∀ {x : AV} {v : Value}, VR μ x v → VR μ' x v
  | _, _, .bool b => .bool b
  | _, _, .int k n => .int k n
  | _, _, .str s => .str s
  | _, _, .ptr0 => .ptr0
  | _, _, .ptr h => .ptr (hl _ _ h)
  | _, _, .sl0 => .sl0
  | _, _, .slX h hc => .slX (hl _ _ h) hc
  | _, _, .slX0 h => .slX0 (hl _ _ h)
  | _, _, .slU h h1 h2 h3 h4 => .slU (hl _ _ h) h1 h2 h3 h4
  | _, _, .slE h he => .slE (hl _ _ h) he
  | _, _, .fn h => .fn (VRL.mono hl h)
  | _, _, .nilfn => .nilfn
  | _, _, .nilifc => .nilifc
  | _, _, .ifc h => .ifc (VR.mono hl h)
  | _, _, .agg h hc => .agg (VRL.mono hl h) hc
  | _, _, .tup h => .tup (VRL.mono hl h)
theorem VRL.mono {μ μ' : Mu} (hl : Le μ μ') : ∀ {x : List AV} {v : List Value}, VRL μ x v → VRL μ' x v
  | _, _, .nil => .nil
  | _, _, .cons h t => .cons (VR.mono hl h) (VRL.mono hl t)
end

theorem VRL.length {μ : Mu} : ∀ {xs : List AV} {vs : List Value}, VRL μ xs vs → xs.length = vs.length
  | _, _, .nil => rfl
  | _, _, .cons _ t => by simp [VRL.length t]
theorem VRL.get {μ : Mu} : ∀ {xs : List AV} {vs : List Value}, VRL μ xs vs → ∀ {i : Nat} {x : AV}, xs[i]? = some x → ∃ v, vs[i]? = some v ∧ VR μ x v
  | _, _, .nil, i, x, h => by simp at h
  | _, _, .cons h t, 0, x, e => by simp at e; subst e; exact ⟨_, rfl, h⟩
  | _, _, .cons h t, i + 1, x, e => by
    simp at e
    obtain ⟨v, hv, r⟩ := VRL.get t e
    exact ⟨v, by simpa using hv, r⟩
theorem VRL.append {μ : Mu} : ∀ {xs ys : List AV} {vs us : List Value}, VRL μ xs vs → VRL μ ys us → VRL μ (xs ++ ys) (vs ++ us)
  | _, _, _, _, .nil, h => h
  | _, _, _, _, .cons h t, k => .cons h (VRL.append t k)
theorem VRL.of_get {μ : Mu} : ∀ {xs : List AV} {vs : List Value}, xs.length = vs.length →
    (∀ (i : Nat) (x : AV), xs[i]? = some x → ∃ v, vs[i]? = some v ∧ VR μ x v) → VRL μ xs vs
  | [], [], _, _ => .nil
  | [], _ :: _, h, _ => by simp at h
  | _ :: _, [], h, _ => by simp at h
  | x :: xs, v :: vs, h, g => by
    refine .cons ?_ (VRL.of_get (by simpa using h) fun i y e => ?_)
    · obtain ⟨u, hu, r⟩ := g 0 x rfl
      simp at hu; exact hu ▸ r
    · obtain ⟨u, hu, r⟩ := g (i + 1) y (by simpa using e)
      exact ⟨u, by simpa using hu, r⟩
theorem VRL.drop {μ : Mu} {xs : List AV} {vs : List Value} (h : VRL μ xs vs) (n : Nat) : VRL μ (xs.drop n) (vs.drop n) := by
  refine VRL.of_get (by simp [h.length]) fun i x e => ?_
  rw [List.getElem?_drop] at e
  obtain ⟨v, hv, r⟩ := h.get e
  exact ⟨v, by rw [List.getElem?_drop]; exact hv, r⟩
theorem VRL.take {μ : Mu} {xs : List AV} {vs : List Value} (h : VRL μ xs vs) (n : Nat) : VRL μ (xs.take n) (vs.take n) := by
  refine VRL.of_get (by simp [h.length]) fun i x e => ?_
  rw [List.getElem?_take] at e
  split at e
  · rename_i hlt
    obtain ⟨v, hv, r⟩ := h.get e
    exact ⟨v, by rw [List.getElem?_take, if_pos hlt]; exact hv, r⟩
  · simp at e
theorem VRL.getD {μ : Mu} {xs : List AV} {vs : List Value} (h : VRL μ xs vs) {i : Nat} (hi : i < xs.length) : VR μ (xs.getD i undefA) (vs.getD i undef) := by
  obtain ⟨v, hv, r⟩ := h.get (x := xs[i]) (i := i) (by simp [hi])
  simp [List.getD, hi, hv, r]

/-- Is the value one that a cell may hold? -/
theorem VR.oneCell {μ : Mu} {x : AV} {v : Value} (h : VR μ x v) (hx : x.isCell = true) : v.cells = #[v] ∧ (∀ cs, v ≠ .agg cs) ∧ (∀ vs, v ≠ .tuple vs) := by
  cases h <;> first | (simp [AV.isCell] at hx; done) | exact ⟨rfl, by simp, by simp⟩
theorem VR.cells {μ : Mu} {x : AV} {v : Value} (h : VR μ x v) (hx : x.cells.all AV.isCell = true) : VRL μ x.cells v.cells.toList := by
  cases h with
  | agg h hc => exact h
  | tup h => simp [AV.cells, AV.isCell] at hx
  | bool b => exact .cons (.bool b) .nil
  | int k n => exact .cons (.int k n) .nil
  | str s => exact .cons (.str s) .nil
  | ptr0 => exact .cons .ptr0 .nil
  | ptr h => exact .cons (.ptr h) .nil
  | sl0 => exact .cons .sl0 .nil
  | slX h hc => exact .cons (.slX h hc) .nil
  | slX0 h => exact .cons (.slX0 h) .nil
  | slU h h1 h2 h3 h4 => exact .cons (.slU h h1 h2 h3 h4) .nil
  | slE h he => exact .cons (.slE h he) .nil
  | fn h => exact .cons (.fn h) .nil
  | nilfn => exact .cons .nilfn .nil
  | nilifc => exact .cons .nilifc .nil
  | ifc h => exact .cons (.ifc h) .nil

def Blk.own : Blk → Bool
  | .cells _ _ _ o => o
  | .iter _ _ => true
/-- Where the room of a block ends: what lies behind its cells belongs to it if it may grow. -/
def hiOf (x : Blk) (l : Loc) : Nat :=
  match x with
  | .cells _ _ g _ => if g then l.top else l.sh + l.ext
  | .iter _ _ => 0
def Blk.isRow : Blk → Prop
  | .cells _ _ _ _ => True
  | .iter _ _ => False
def Apart (x y : Blk) (l m : Loc) : Prop := l.blk ≠ m.blk ∨ (x.isRow ∧ y.isRow ∧ (hiOf x l ≤ m.sh ∨ hiOf y m ≤ l.sh))

/-- A block of cells and where it lies. -/
structure Row (W0 : World) (μ : Mu) (w : World) (cs : List AV) (es : Nat) (own : Bool) (l : Loc) : Prop where
  at_ : ∃ C el fz, w.heap[l.blk]? = some (.cells C el fz) ∧ C.size = l.top ∧
    (∀ (i : Nat) (x : AV), cs[i]? = some x → x.isCell = true ∧ ∃ v, C[l.sh + i]? = some v ∧ VR μ x v) ∧
    (own = true → ∀ (i : Nat), i < l.top → ¬ (fz.1 ≤ i ∧ i < fz.2))
  len : cs.length = l.ext
  es_ : l.es = es
  fits : l.sh + l.ext ≤ l.top
  old : if own then W0.heap.size ≤ l.blk else l.blk < W0.heap.size

structure Rel (W0 : World) (μ : Mu) (w : World) (H : AH) : Prop where
  below : Below W0.heap.size W0 w
  row : ∀ b cs es g own, H.bk b = some (.cells cs es g own) → ∃ l, μ b = some l ∧ Row W0 μ w cs es own l
  iter : ∀ b s pos, H.bk b = some (.iter s pos) → ∃ l, μ b = some l ∧ w.heap[l.blk]? = some (.stringIter s pos) ∧ W0.heap.size ≤ l.blk ∧ l.sh = 0
  apart : ∀ b b' x y l m, b ≠ b' → H.bk b = some x → H.bk b' = some y → x.own = true → y.own = true → μ b = some l → μ b' = some m → Apart x y l m
  fresh : ∀ b, H.nx ≤ b → μ b = none

def AH.plus (H : AH) (G : Nat → Option Blk) : AH :=
  { nx := H.nx, bk := fun b => match H.bk b with | some x => some x | none => G b }
structure RelG (W0 : World) (μ : Mu) (w : World) (H : AH) (G : Nat → Option Blk) : Prop where
  rel : Rel W0 μ w (H.plus G)
  dis : ∀ b, (H.bk b).isSome = true → G b = none

theorem plus_some {H : AH} {G : Nat → Option Blk} {b : Nat} {x : Blk} (h : H.bk b = some x) : (H.plus G).bk b = some x := by simp [AH.plus, h]
theorem RelG.gnone {W0 : World} {μ : Mu} {w : World} {H : AH} {G : Nat → Option Blk} (h : RelG W0 μ w H G) {b : Nat} (hb : H.nx ≤ b) : G b = none := by
  cases hH : H.bk b with
  | some x => exact h.dis b (by simp [hH])
  | none =>
    cases hG : G b with
    | none => rfl
    | some x =>
      exfalso
      have hp : (H.plus G).bk b = some x := by simp [AH.plus, hH, hG]
      have hf := h.rel.fresh b hb
      cases x with
      | cells cs es g o => obtain ⟨l, hl, _⟩ := h.rel.row _ _ _ _ _ hp; simp [hf] at hl
      | iter s p => obtain ⟨l, hl, _⟩ := h.rel.iter _ _ _ hp; simp [hf] at hl

-- what may become of the world

/-- Block k alone has turned, into o. -/
structure Only (w w' : World) (k : Nat) (o : Obj) : Prop where
  os : w'.os = w.os
  tape : w'.tape = w.tape
  output : w'.output = w.output
  size : w'.heap.size = w.heap.size
  other : ∀ j, j ≠ k → w'.heap[j]? = w.heap[j]?
  here : w'.heap[k]? = some o
/-- One block more. -/
structure New (w w' : World) (o : Obj) : Prop where
  os : w'.os = w.os
  tape : w'.tape = w.tape
  output : w'.output = w.output
  size : w'.heap.size = w.heap.size + 1
  other : ∀ j, j < w.heap.size → w'.heap[j]? = w.heap[j]?
  here : w'.heap[w.heap.size]? = some o
/-- The same memory. -/
structure Same (w w' : World) : Prop where
  os : w'.os = w.os
  tape : w'.tape = w.tape
  output : w'.output = w.output
  heap : w'.heap = w.heap

theorem lt_of_get? {α : Type} {a : Array α} {i : Nat} {x : α} (h : a[i]? = some x) : i < a.size := by
  rcases Nat.lt_or_ge i a.size with h' | h'
  · exact h'
  · simp [Array.getElem?_eq_none h'] at h

theorem Row.same {W0 : World} {μ μ' : Mu} {w w' : World} {cs : List AV} {es : Nat} {own : Bool} {l : Loc} (h : Row W0 μ w cs es own l)
    (hl : Le μ μ') (hw : w'.heap[l.blk]? = w.heap[l.blk]?) : Row W0 μ' w' cs es own l := by
  obtain ⟨C, el, fz, h1, h2, h3, h4⟩ := h.at_
  exact ⟨⟨C, el, fz, by rw [hw]; exact h1, h2, fun i x e => ⟨(h3 i x e).1, (h3 i x e).2.imp fun v hv => ⟨hv.1, hv.2.mono hl⟩⟩, h4⟩, h.len, h.es_, h.fits, h.old⟩

theorem Rel.same {W0 : World} {μ : Mu} {w w' : World} {H : AH} (h : Rel W0 μ w H) (hw : Same w w') : Rel W0 μ w' H where
  below := h.below.trans ⟨hw.os, hw.tape, hw.output, by rw [hw.heap]; exact Nat.le_refl _, fun k _ => by rw [hw.heap]⟩
  row b cs es g own hb := let ⟨l, hl, hr⟩ := h.row b cs es g own hb; ⟨l, hl, hr.same (Le.refl _) (by rw [hw.heap])⟩
  iter b s pos hb := let ⟨l, hl, hr⟩ := h.iter b s pos hb; ⟨l, hl, by rw [hw.heap]; exact hr⟩
  apart := h.apart
  fresh := h.fresh

/-- Blocks may be forgotten, and numbers passed by. -/
theorem Rel.drop {W0 : World} {μ : Mu} {w : World} {H H' : AH} (h : Rel W0 μ w H) (hb : ∀ b x, H'.bk b = some x → H.bk b = some x) (hn : H.nx ≤ H'.nx) : Rel W0 μ w H' where
  below := h.below
  row b cs es g own hb' := h.row b cs es g own (hb _ _ hb')
  iter b s pos hb' := h.iter b s pos (hb _ _ hb')
  apart b b' x y l m hne hx hy := h.apart b b' x y l m hne (hb _ _ hx) (hb _ _ hy)
  fresh b hb' := h.fresh b (Nat.le_trans hn hb')

def muSet (μ : Mu) (b : Nat) (l : Loc) : Mu := fun i => if i = b then some l else μ i
theorem muSet_le {μ : Mu} {b : Nat} {l : Loc} (h : μ b = none) : Le μ (muSet μ b l) := by
  intro i m hi
  simp only [muSet]
  split
  · rename_i e; subst e; simp [h] at hi
  · exact hi

theorem Rel.blk_lt {W0 : World} {μ : Mu} {w : World} {H : AH} (h : Rel W0 μ w H) {b : Nat} {x : Blk} (hb : H.bk b = some x) {l : Loc} (hl : μ b = some l) : l.blk < w.heap.size := by
  cases x with
  | cells cs es g own =>
    obtain ⟨l', hl', hr⟩ := h.row _ _ _ _ _ hb
    rw [hl] at hl'; cases hl'
    obtain ⟨C, el, fz, h1, _⟩ := hr.at_
    exact lt_of_get? h1
  | iter s pos =>
    obtain ⟨l', hl', hr, _⟩ := h.iter _ _ _ hb
    rw [hl] at hl'; cases hl'
    exact lt_of_get? hr

/-- A new block of cells. -/
theorem Rel.new {W0 : World} {μ : Mu} {w w' : World} {H : AH} (h : Rel W0 μ w H) {C : Array Value} {el : TypeId} {fz : Nat × Nat} (hw : New w w' (.cells C el fz))
    {cs : List AV} {es : Nat} {g : Bool} {μ' : Mu} (hμ : μ' = muSet μ H.nx { blk := w.heap.size, sh := 0, ext := cs.length, top := C.size, es })
    (hc : cs.length ≤ C.size) (hfz : ∀ (i : Nat), i < C.size → ¬ (fz.1 ≤ i ∧ i < fz.2))
    (hv : ∀ (i : Nat) (x : AV), cs[i]? = some x → x.isCell = true ∧ ∃ v, C[i]? = some v ∧ VR μ' x v) :
    Rel W0 μ' w' { nx := H.nx + 1, bk := fun i => if i = H.nx then some (.cells cs es g true) else H.bk i } ∧ Le μ μ' := by
  have hfr : μ H.nx = none := h.fresh _ (Nat.le_refl _)
  have hle : Le μ μ' := hμ ▸ muSet_le hfr
  have hsz := h.below.size
  have hat : μ' H.nx = some { blk := w.heap.size, sh := 0, ext := cs.length, top := C.size, es } := by simp [hμ, muSet]
  have hne : ∀ b l x, H.bk b = some x → μ' b = some l → b ≠ H.nx → μ b = some l := by
    intro b l x hx hl hb
    simpa [hμ, muSet, hb] using hl
  have hbn : ∀ b x, H.bk b = some x → b ≠ H.nx := by
    intro b x hx e
    subst e
    cases x with
    | cells cs es g own => obtain ⟨l, hl, _⟩ := h.row _ _ _ _ _ hx; simp [hfr] at hl
    | iter s p => obtain ⟨l, hl, _⟩ := h.iter _ _ _ hx; simp [hfr] at hl
  refine ⟨⟨?_, ?_, ?_, ?_, ?_⟩, hle⟩
  · exact h.below.trans ⟨hw.os, hw.tape, hw.output, by rw [hw.size]; omega, fun k hk => hw.other k (by omega)⟩
  · intro b cs' es' g' own hb
    dsimp only at hb
    split at hb
    · rename_i e
      cases hb
      subst e
      refine ⟨_, hat, ⟨⟨C, el, fz, hw.here, rfl, fun i x e => ?_, fun _ => hfz⟩, rfl, rfl, by simpa using hc, by simpa using hsz⟩⟩
      simpa using hv i x e
    · obtain ⟨l, hl, hr⟩ := h.row _ _ _ _ _ hb
      refine ⟨l, hle _ _ hl, hr.same hle (hw.other _ (h.blk_lt hb hl))⟩
  · intro b s pos hb
    dsimp only at hb
    split at hb
    · cases hb
    · obtain ⟨l, hl, hr, h2, h3⟩ := h.iter _ _ _ hb
      exact ⟨l, hle _ _ hl, by rw [hw.other _ (h.blk_lt hb hl)]; exact hr, h2, h3⟩
  · intro b b' x y l m hbb hx hy hox hoy hl hm
    dsimp only at hx hy
    split at hx
    · rename_i e
      subst e
      split at hy
      · rename_i e2; exact absurd e2.symm hbb
      · rename_i e2
        rw [hat] at hl; cases hl
        have := h.blk_lt hy (hne _ _ _ hy hm e2)
        exact .inl (by dsimp only; omega)
    · rename_i e
      split at hy
      · rename_i e2
        subst e2
        rw [hat] at hm; cases hm
        have := h.blk_lt hx (hne _ _ _ hx hl e)
        exact .inl (by dsimp only; omega)
      · rename_i e2
        exact h.apart _ _ _ _ _ _ hbb hx hy hox hoy (hne _ _ _ hx hl e) (hne _ _ _ hy hm e2)
  · intro b hb
    dsimp only at hb
    simp only [hμ, muSet]
    rw [if_neg (by omega)]
    exact h.fresh b (by omega)

/-- A block is written. -/
theorem Rel.write {W0 : World} {μ : Mu} {w w' : World} {H : AH} (h : Rel W0 μ w H) {b : Nat} {cs cs' : List AV} {es : Nat} {g : Bool} {l : Loc}
    (hb : H.bk b = some (.cells cs es g true)) (hl : μ b = some l) {C C' : Array Value} {el : TypeId} {fz : Nat × Nat}
    (hC : w.heap[l.blk]? = some (.cells C el fz)) (hw : Only w w' l.blk (.cells C' el fz)) (hs : C'.size = C.size)
    (hout : ∀ j, (j < l.sh ∨ l.sh + l.ext ≤ j) → C'[j]? = C[j]?)
    (hlen : cs'.length = cs.length) (hv : ∀ (i : Nat) (x : AV), cs'[i]? = some x → x.isCell = true ∧ ∃ v, C'[l.sh + i]? = some v ∧ VR μ x v) :
    Rel W0 μ w' (H.set b (some (.cells cs' es g true))) := by
  obtain ⟨l', hl', hr⟩ := h.row _ _ _ _ _ hb
  rw [hl] at hl'; cases hl'
  obtain ⟨D, el', fz', h1, h2, h3, h4⟩ := hr.at_
  rw [hC] at h1; cases h1
  have hold : W0.heap.size ≤ l.blk := by simpa using hr.old
  refine ⟨?_, ?_, ?_, ?_, h.fresh⟩
  · exact h.below.trans ⟨hw.os, hw.tape, hw.output, by rw [hw.size]; exact Nat.le_refl _, fun k hk => hw.other k (by omega)⟩
  · intro b' cs2 es2 g2 own2 hb2
    simp only [AH.set] at hb2
    split at hb2
    · rename_i e
      subst e
      cases hb2
      exact ⟨l, hl, ⟨⟨C', el, fz, hw.here, by rw [hs]; exact h2, hv, h4⟩, by rw [hlen]; exact hr.len, hr.es_, hr.fits, hr.old⟩⟩
    · rename_i e
      obtain ⟨m, hm, hrm⟩ := h.row _ _ _ _ _ hb2
      refine ⟨m, hm, ?_⟩
      by_cases hblk : m.blk = l.blk
      · have hown2 : own2 = true := by
          cases own2 with
          | true => rfl
          | false => have := hrm.old; simp at this; omega
        have hap := h.apart b' b _ _ m l e hb2 hb (by simpa [Blk.own] using hown2) rfl hm hl
        rcases hap with hap | ⟨_, _, hap⟩
        · exact absurd hblk hap
        · obtain ⟨E, el3, fz3, k1, k2, k3, k4⟩ := hrm.at_
          rw [hblk, hC] at k1; cases k1
          have hsp1 : m.sh + m.ext ≤ hiOf (.cells cs2 es2 g2 own2) m := by
            simp only [hiOf]; split
            · exact hrm.fits
            · exact Nat.le_refl _
          have hsp2 : l.sh + l.ext ≤ hiOf (.cells cs es g true) l := by
            simp only [hiOf]; split
            · exact hr.fits
            · exact Nat.le_refl _
          refine ⟨⟨C', el, fz, by rw [hblk]; exact hw.here, by rw [hs]; exact k2, fun i x hx => ?_, k4⟩, hrm.len, hrm.es_, hrm.fits, hrm.old⟩
          obtain ⟨c1, v, c2, c3⟩ := k3 i x hx
          have hi : i < cs2.length := by
            rcases Nat.lt_or_ge i cs2.length with h' | h'
            · exact h'
            · simp [List.getElem?_eq_none h'] at hx
          have := hrm.len
          refine ⟨c1, v, ?_, c3⟩
          rw [hout _ (by omega)]
          exact c2
      · exact hrm.same (Le.refl _) (hw.other _ hblk)
  · intro b' s pos hb2
    simp only [AH.set] at hb2
    split at hb2
    · cases hb2
    · obtain ⟨m, hm, k1, k2, k3⟩ := h.iter _ _ _ hb2
      refine ⟨m, hm, ?_, k2, k3⟩
      rw [hw.other _ (fun e => by rw [e, hC] at k1; cases k1)]
      exact k1
  · intro b1 b2 x y l1 l2 hne hx hy hox hoy hl1 hl2
    simp only [AH.set] at hx hy
    split at hx
    · rename_i e
      subst e
      cases hx
      split at hy
      · rename_i e2; exact absurd e2.symm hne
      · have := h.apart b1 b2 _ _ _ _ hne hb hy rfl hoy hl1 hl2
        exact this
    · split at hy
      · rename_i e
        subst e
        cases hy
        have := h.apart b1 b2 _ _ _ _ hne hx hb hox rfl hl1 hl2
        exact this
      · exact h.apart b1 b2 _ _ _ _ hne hx hy hox hoy hl1 hl2

end Go.Ab
