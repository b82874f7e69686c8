/- A memory to reckon with: a tree of blocks; what each step makes of it. -/
import Derived.Test.YtchikbhlojpolaaGreatHp
namespace Go.Ab
open Go

inductive Tr where
  | lf
  | nd (x : Option Blk) (l r : Tr)

def Tr.find : Tr → Nat → Option Blk
  | .lf, _ => none
  | .nd x l r, k => bif Nat.beq k 0 then x else bif Nat.beq (Nat.mod k 2) 1 then l.find (Nat.div k 2) else r.find (Nat.sub (Nat.div k 2) 1)
def Tr.put (x : Option Blk) : Nat → Tr → Nat → Tr
  | 0, t, _ => t
  | d + 1, .lf, k => if k = 0 then .nd x .lf .lf else if k % 2 = 1 then .nd none (Tr.put x d .lf (k / 2)) .lf else .nd none .lf (Tr.put x d .lf (k / 2 - 1))
  | d + 1, .nd y l r, k => if k = 0 then .nd x l r else if k % 2 = 1 then .nd y (Tr.put x d l (k / 2)) r else .nd y l (Tr.put x d r (k / 2 - 1))
def Tr.putK {R : Type} (x : Option Blk) : Nat → Tr → Nat → (Tr → R) → R
  | 0, t, _, c => c t
  | d + 1, .lf, k, c => bif Nat.beq k 0 then c (.nd x .lf .lf) else bif Nat.beq (Nat.mod k 2) 1 then Tr.putK x d .lf (Nat.div k 2) (fun t => c (.nd none t .lf)) else Tr.putK x d .lf (Nat.sub (Nat.div k 2) 1) (fun t => c (.nd none .lf t))
  | d + 1, .nd y l r, k, c => bif Nat.beq k 0 then c (.nd x l r) else bif Nat.beq (Nat.mod k 2) 1 then Tr.putK x d l (Nat.div k 2) (fun t => c (.nd y t r)) else Tr.putK x d r (Nat.sub (Nat.div k 2) 1) (fun t => c (.nd y l t))

theorem beq_ite {α : Type} (a b : Nat) (x y : α) : (bif Nat.beq a b then x else y) = if a = b then x else y := by
  by_cases h : a = b
  · subst h; simp [Nat.beq_refl]
  · rw [if_neg h]
    have : Nat.beq a b = false := by
      cases hb : Nat.beq a b with
      | false => rfl
      | true => exact absurd (Nat.eq_of_beq_eq_true hb) h
    simp [this]
theorem Tr.find_nd (x : Option Blk) (l r : Tr) (k : Nat) : (Tr.nd x l r).find k = if k = 0 then x else if k % 2 = 1 then l.find (k / 2) else r.find (k / 2 - 1) := by
  show (bif Nat.beq k 0 then x else bif Nat.beq (Nat.mod k 2) 1 then l.find (Nat.div k 2) else r.find (Nat.sub (Nat.div k 2) 1)) = _
  rw [beq_ite, beq_ite]; rfl
theorem Tr.putK_eq {R : Type} (x : Option Blk) : ∀ (d : Nat) (t : Tr) (k : Nat) (c : Tr → R), Tr.putK x d t k c = c (Tr.put x d t k)
  | 0, t, k, c => rfl
  | d + 1, .lf, k, c => by
    simp only [Tr.putK, Tr.put, beq_ite, Tr.putK_eq x d]
    show (if k = 0 then _ else if k % 2 = 1 then c (.nd none (Tr.put x d .lf (k / 2)) .lf) else c (.nd none .lf (Tr.put x d .lf (k / 2 - 1)))) = _
    split
    · rfl
    · split <;> rfl
  | d + 1, .nd y l r, k, c => by
    simp only [Tr.putK, Tr.put, beq_ite, Tr.putK_eq x d]
    show (if k = 0 then _ else if k % 2 = 1 then c (.nd y (Tr.put x d l (k / 2)) r) else c (.nd y l (Tr.put x d r (k / 2 - 1)))) = _
    split
    · rfl
    · split <;> rfl
theorem Tr.find_lf (b : Nat) : Tr.lf.find b = none := rfl
theorem Tr.find_put (x : Option Blk) : ∀ (d : Nat) (t : Tr) (k : Nat), k + 1 < 2 ^ d → ∀ b, (Tr.put x d t k).find b = if b = k then x else t.find b
  | 0, t, k, h, b => by simp at h
  | d + 1, t, k, h, b => by
    have hp : 2 ^ (d + 1) = 2 * 2 ^ d := by rw [Nat.pow_succ, Nat.mul_comm]
    have key : ∀ (y : Option Blk) (l r : Tr), (if k = 0 then Tr.nd x l r else if k % 2 = 1 then .nd y (Tr.put x d l (k / 2)) r else .nd y l (Tr.put x d r (k / 2 - 1))).find b = if b = k then x else (Tr.nd y l r).find b := by
      intro y l r
      by_cases h0 : k = 0
      · subst h0
        rw [if_pos rfl, Tr.find_nd, Tr.find_nd]
        by_cases hb : b = 0
        · simp [hb]
        · simp [hb]
      · rw [if_neg h0]
        by_cases h1 : k % 2 = 1
        · rw [if_pos h1, Tr.find_nd, Tr.find_nd]
          by_cases hb : b = 0
          · subst hb; rw [if_pos rfl, if_neg (fun e => h0 e.symm), if_pos rfl]
          · rw [if_neg hb, if_neg hb]
            by_cases hb1 : b % 2 = 1
            · rw [if_pos hb1, if_pos hb1, Tr.find_put x d l (k / 2) (by omega)]
              by_cases e : b = k
              · subst e; simp
              · rw [if_neg e, if_neg (by omega)]
            · rw [if_neg hb1, if_neg hb1, if_neg (by intro e; subst e; exact hb1 h1)]
        · rw [if_neg h1, Tr.find_nd, Tr.find_nd]
          by_cases hb : b = 0
          · subst hb; rw [if_pos rfl, if_neg (fun e => h0 e.symm), if_pos rfl]
          · rw [if_neg hb, if_neg hb]
            by_cases hb1 : b % 2 = 1
            · rw [if_pos hb1, if_pos hb1, if_neg (by intro e; subst e; exact h1 hb1)]
            · rw [if_neg hb1, if_neg hb1, Tr.find_put x d r (k / 2 - 1) (by omega)]
              by_cases e : b = k
              · subst e; simp
              · rw [if_neg e, if_neg (by omega)]
    cases t with
    | lf =>
      have := key none .lf .lf
      simp only [Tr.put]
      rw [this]
      by_cases e : b = k
      · rw [if_pos e, if_pos e]
      · rw [if_neg e, if_neg e, Tr.find_nd, Tr.find_lf, Tr.find_lf, Tr.find_lf]; simp
    | nd y l r => simp only [Tr.put]; exact key y l r

-- forcing
def fN {R : Type} (n : Nat) (c : Nat → R) : R := match n with
  | 0 => c 0
  | m + 1 => c (Nat.succ m)
theorem fN_eq {R : Type} (n : Nat) (c : Nat → R) : fN n c = c n := by cases n <;> rfl
def fI {R : Type} (n : Int) (c : Int → R) : R := match n with
  | .ofNat m => fN m fun m => c (.ofNat m)
  | .negSucc m => fN m fun m => c (.negSucc m)
theorem fI_eq {R : Type} (n : Int) (c : Int → R) : fI n c = c n := by cases n <;> simp [fI, fN_eq]
def fV {R : Type} (v : AV) (c : AV → R) : R := match v with
  | .int k n => fI n fun n => c (.int k n)
  | .bool true => c (.bool true)
  | .bool false => c (.bool false)
  | .ptr (some (b, o)) => fN b fun b => fN o fun o => c (.ptr (some (b, o)))
  | .sl (some (b, o)) n (some m) => fN b fun b => fN o fun o => fN n fun n => fN m fun m => c (.sl (some (b, o)) n (some m))
  | .sl (some (b, o)) n none => fN b fun b => fN o fun o => fN n fun n => c (.sl (some (b, o)) n none)
  | v => c v
theorem fV_eq {R : Type} (v : AV) (c : AV → R) : fV v c = c v := by
  unfold fV; split <;> simp [fI_eq, fN_eq]
def fL {R : Type} : List AV → (List AV → R) → R
  | [], c => c []
  | x :: l, c => fV x fun x => fL l fun l => c (x :: l)
theorem fL_eq {R : Type} : ∀ (l : List AV) (c : List AV → R), fL l c = c l
  | [], c => rfl
  | x :: l, c => by simp only [fL, fV_eq, fL_eq l]

structure TH where
  nx : Nat
  tr : Tr
def Sub (f g : Nat → Option Blk) : Prop := ∀ b x, f b = some x → g b = some x
/-- The memory of the proofs has the tree's blocks, and perhaps more. -/
def Rl (T : TH) (H : AH) : Prop := H.nx = T.nx ∧ Sub T.tr.find H.bk

-- what a step does, told plainly: the value, the blocks that turn, how many are new
structure Pl where
  v : AV
  up : List (Nat × Option Blk)
  dn : Nat
abbrev Bk := Nat → Option Blk
def upF : List (Nat × Option Blk) → Bk → Bk
  | [], f => f
  | (b, x) :: l, f => upF l fun i => if i = b then x else f i
def exA (p : Bk → Nat → Option Pl) : M AV := fun H => match p H.bk H.nx with
  | none => none
  | some p => some (p.v, ⟨H.nx + p.dn, upF p.up H.bk⟩)
def fB {R : Type} (x : Option Blk) (c : Option Blk → R) : R := match x with
  | some (.cells cs es g o) => fL cs fun cs => c (some (.cells cs es g o))
  | x => c x
theorem fB_eq {R : Type} (x : Option Blk) (c : Option Blk → R) : fB x c = c x := by unfold fB; split <;> simp [fL_eq]
def upT {R : Type} : List (Nat × Option Blk) → Tr → (Tr → Option R) → Option R
  | [], t, c => c t
  | (b, x) :: l, t, c => bif Nat.blt b 549755813888 then fN b fun b => fB x fun x => Tr.putK x 40 t b fun t => upT l t c else none
def exT (p : Bk → Nat → Option Pl) : MS TH AV := fun T => match T with
  | ⟨nx, tr⟩ => match p tr.find nx with
    | none => none
    | some ⟨v, up, dn⟩ => upT up tr fun tr => fN (Nat.add nx dn) fun nx => fV v fun v => some (v, ⟨nx, tr⟩)
theorem upT_some {R : Type} : ∀ {l : List (Nat × Option Blk)} {t : Tr} {c : Tr → Option R} {r : R}, upT l t c = some r → ∃ t', c t' = some r ∧ t'.find = upF l t.find
  | [], t, c, r, h => ⟨t, h, rfl⟩
  | (b, x) :: l, t, c, r, h => by
    simp only [upT] at h
    by_cases hb : Nat.blt b 549755813888 = true
    · simp only [hb, cond_true, fN_eq, fB_eq, Tr.putK_eq] at h
      obtain ⟨t', h1, h2⟩ := upT_some h
      refine ⟨t', h1, ?_⟩
      rw [h2]
      have hlt : b < 549755813888 := by simpa [Nat.blt_eq] using hb
      have : (Tr.put x 40 t b).find = fun i => if i = b then x else t.find i := by
        funext i
        exact Tr.find_put x 40 t b (by omega) i
      simp only [upF, this]
    · have : Nat.blt b 549755813888 = false := (Bool.not_eq_true _).mp hb
      simp [this] at h
def Mn (p : Bk → Nat → Option Pl) : Prop := ∀ f g nx q, Sub f g → p f nx = some q → p g nx = some q
theorem upF_sub : ∀ (l : List (Nat × Option Blk)) {f g : Bk}, Sub f g → Sub (upF l f) (upF l g)
  | [], f, g, h => h
  | (b, x) :: l, f, g, h => by
    simp only [upF]
    refine upF_sub l fun i y e => ?_
    split at e
    · rename_i hi; rw [if_pos hi]; exact e
    · rename_i hi; rw [if_neg hi]; exact h _ _ e
theorem ex_sm {p : Bk → Nat → Option Pl} (hp : Mn p) : Sm Rl (exT p) (exA p) := by
  intro T H a T' r h
  obtain ⟨nx, tr⟩ := T
  obtain ⟨r1, r2⟩ := r
  simp only at r1 r2
  simp only [exT] at h
  simp only [exA]
  cases hq : p tr.find nx with
  | none => simp [hq] at h
  | some q =>
    have h3 := hp _ _ _ _ r2 hq
    obtain ⟨v, up, dn⟩ := q
    simp only [hq] at h
    obtain ⟨t', h1, h2⟩ := upT_some h
    simp only [fN_eq, fV_eq, Option.some.injEq, Prod.mk.injEq] at h1
    obtain ⟨rfl, rfl⟩ := h1
    rw [r1, h3]
    refine ⟨_, rfl, rfl, ?_⟩
    simp only [h2]
    exact upF_sub _ r2
/-- A reading. -/
def rdA (p : Bk → Option AV) : M AV := fun H => (p H.bk).map (·, H)
def rdT (p : Bk → Option AV) : MS TH AV := fun T => match p T.tr.find with
  | none => none
  | some v => fV v fun v => some (v, T)
def MnR (p : Bk → Option AV) : Prop := ∀ f g q, Sub f g → p f = some q → p g = some q
theorem rd_sm {p : Bk → Option AV} (hp : MnR p) : Sm Rl (rdT p) (rdA p) := by
  intro T H a T' r h
  simp only [rdT] at h
  cases hq : p T.tr.find with
  | none => simp [hq] at h
  | some v =>
    simp only [hq, fV_eq, Option.some.injEq, Prod.mk.injEq] at h; obtain ⟨rfl, rfl⟩ := h
    refine ⟨H, ?_, r⟩
    simp only [rdA, hp _ _ _ r.2 hq]; rfl
theorem rd_st (p : Bk → Option AV) : St (rdT p) := by
  intro T a T' h
  simp only [rdT] at h
  cases hp : p T.tr.find with
  | none => simp [hp] at h
  | some v => simp only [hp, fV_eq, Option.some.injEq, Prod.mk.injEq] at h; exact h.2.symm
theorem rdA_st (p : Bk → Option AV) : St (rdA p) := by
  intro H a H' h
  simp only [rdA] at h
  cases hp : p H.bk with
  | none => simp [hp] at h
  | some v => simp only [hp, Option.map, Option.some.injEq, Prod.mk.injEq] at h; exact h.2.symm

-- the steps
def nth : List AV → Nat → Option AV
  | [], _ => none
  | x :: l, n => match n with
    | 0 => some x
    | m + 1 => nth l m
theorem nth_eq : ∀ (l : List AV) (n : Nat), nth l n = l[n]?
  | [], n => by simp [nth]
  | x :: l, 0 => by simp [nth]
  | x :: l, n + 1 => by simp [nth, nth_eq l n]
def rdnP (bk : Bk) (r : Ref) (n : Nat) : Option (List AV) := match bk r.1 with
  | some (.cells cs _ _ _) => if r.2 + n ≤ cs.length then some ((cs.drop r.2).take n) else none
  | _ => none
theorem rdn_eq (H : AH) (r : Ref) (n : Nat) : H.rd r n = rdnP H.bk r n := rfl
def ldP (a : AV) (bk : Bk) : Option AV := match a with
  | .ptr (some r) => (match bk r.1 with
    | some (.cells cs _ _ _) => nth cs r.2
    | _ => none)
  | _ => none
theorem ld_eq (a : AV) : ld a = rdA (ldP a) := by
  cases a with
  | ptr r =>
    cases r with
    | none => rfl
    | some r =>
      funext H
      simp only [ld, ld1, AH.rd1, rdA, ldP]
      cases H.bk r.1 with
      | none => rfl
      | some x => cases x <;> simp [nth_eq]
  | _ => rfl
def ldaP (n : Nat) (a : AV) (bk : Bk) : Option AV := match a with
  | .ptr (some r) => (match rdnP bk r n with
    | some cs => fL cs fun cs => some (.agg cs)
    | none => none)
  | _ => none
theorem lda_eq (n : Nat) (a : AV) : lda n a = rdA (ldaP n a) := by
  cases a with
  | ptr r =>
    cases r with
    | none => rfl
    | some r =>
      funext H
      simp only [lda, bnd, ldn, rdn_eq, rdA, ldaP]
      cases rdnP H.bk r n <;> simp [ret, fL_eq]
  | _ => rfl
def stnP (bk : Bk) (r : Ref) (vs : List AV) (v : AV) : Option Pl := match bk r.1 with
  | some (.cells cs es g true) => if r.2 + vs.length ≤ cs.length ∧ vs.all AV.isCell = true then some ⟨v, [(r.1, some (.cells (splice cs r.2 vs) es g true))], 0⟩ else none
  | _ => none
theorem stn_eq (r : Ref) (vs : List AV) (v : AV) : (bnd (stn r vs) fun _ => ret v) = exA fun bk _ => stnP bk r vs v := by
  funext H
  simp only [bnd, stn, exA, stnP]
  cases H.bk r.1 with
  | none => rfl
  | some x =>
    cases x with
    | iter s p => rfl
    | cells cs es g o =>
      cases o with
      | false => rfl
      | true =>
        by_cases hc : r.2 + vs.length ≤ cs.length ∧ vs.all AV.isCell = true
        · simp only [if_pos hc]; rfl
        · simp only [if_neg hc]
def st1P (bk : Bk) (r : Ref) (x v : AV) : Option Pl := match bk r.1 with
  | some (.cells cs es g true) => if r.2 < cs.length ∧ x.isCell = true then some ⟨v, [(r.1, some (.cells (cs.set r.2 x) es g true))], 0⟩ else none
  | _ => none
theorem st1P_eq (r : Ref) (x v : AV) : (bnd (st1 r x) fun _ => ret v) = exA fun bk _ => st1P bk r x v := by
  funext H
  simp only [bnd, st1, exA, st1P]
  cases H.bk r.1 with
  | none => rfl
  | some y =>
    cases y with
    | iter s p => rfl
    | cells cs es g o =>
      cases o with
      | false => rfl
      | true =>
        by_cases hc : r.2 < cs.length ∧ x.isCell = true
        · simp only [if_pos hc]; rfl
        · simp only [if_neg hc]
def stP (n : Nat) (a v : AV) (bk : Bk) (_ : Nat) : Option Pl := match a with
  | .ptr (some r) => (match v with
    | .agg cs => if cs.length = n then stnP bk r cs undefA else none
    | v => if n = 1 then st1P bk r v undefA else none)
  | _ => none
theorem exA_none : exA (fun _ _ => none) = fail := rfl
theorem st_eq (n : Nat) (a v : AV) : st n a v = exA (stP n a v) := by
  cases a with
  | ptr r =>
    cases r with
    | none => cases v <;> rfl
    | some r =>
      have hA : ∀ cs, stP n (.ptr (some r)) (.agg cs) = fun bk _ => if cs.length = n then stnP bk r cs undefA else none := fun _ => rfl
      cases v with
      | agg cs =>
        rw [hA]
        by_cases h : cs.length = n
        · simp only [st, if_pos h]; exact stn_eq r cs undefA
        · simp only [st, if_neg h]; rfl
      | _ =>
        show _ = exA (fun bk _ => if n = 1 then st1P bk r _ undefA else none)
        by_cases h : n = 1
        · simp only [st, if_pos h]; exact st1P_eq r _ undefA
        · simp only [st, if_neg h]; rfl
  | _ => cases v <;> rfl
def newP (cs : List AV) (es : Nat) (g : Bool) (nx : Nat) (mk : Nat → AV) : Pl := ⟨mk nx, [(nx, some (.cells cs es g true))], 1⟩
theorem alc_eq (cs : List AV) (es : Nat) (g : Bool) (mk : Nat → AV) : (bnd (alc cs es g) fun b => ret (mk b)) = exA fun _ nx => some (newP cs es g nx mk) := rfl
def pT (b : Nat) : AV := .ptr (some (b, 0))
def alPP (cs : List AV) (_ : Bk) (nx : Nat) : Option Pl := some (newP cs 1 false nx pT)
theorem alP_eq (cs : List AV) : alP cs = exA (alPP cs) := rfl
def boxP (v : AV) (_ : Bk) (nx : Nat) : Option Pl := if v.cells.all AV.isCell then some (newP v.cells 1 false nx pT) else none
theorem box_eq (v : AV) : boxA v = exA (boxP v) := by
  funext H; simp only [boxA, exA, boxP]; split <;> rfl
def bsP (z : List AV) (sz n : Nat) (ps : List (Nat × AV)) (_ : Bk) (nx : Nat) : Option Pl :=
  match fillA (fun i => some (i * sz, sz)) (repCells z n) ps with
  | some cs => some (newP cs sz false nx fun b => .sl (some (b, 0)) n (some n))
  | none => none
theorem bs_eq (z : List AV) (sz n : Nat) (ps : List (Nat × AV)) : bsA z sz n ps = exA (bsP z sz n ps) := by
  funext H; simp only [bsA, exA, bsP]
  cases fillA (fun i => some (i * sz, sz)) (repCells z n) ps <;> rfl
def mkP (esz bytes : Nat) (zs : List AV) (l c : AV) (_ : Bk) (nx : Nat) : Option Pl := match l with
  | .int _ l => (match c with
    | .int _ c => if 0 ≤ l ∧ l ≤ c ∧ c ≤ 4294967296 ∧ bytes ≤ 4096 then some (newP (repCells zs c.toNat) esz false nx fun b => .sl (some (b, 0)) l.toNat (some c.toNat)) else none
    | _ => none)
  | _ => none
theorem mk_eq (esz bytes : Nat) (zs : List AV) (l c : AV) : mkS esz bytes zs l c = exA (mkP esz bytes zs l c) := by
  cases l <;> cases c <;> first | rfl | (funext H; simp only [mkS, exA, mkP]; split <;> rfl)
def slP (esz : Nat) (x : AV) (lo hi mx : Option AV) (bk : Bk) : Option AV :=
  match x with
  | .sl a len (some c) => (match boundA c c mx with
    | some m => (match boundA len m hi with
      | some h => (match boundA 0 h lo with
        | some l => some (.sl (if m = l then a else a.map fun r => (r.1, r.2 + l * esz)) (h - l) (some (m - l)))
        | none => none)
      | none => none)
    | none => none)
  | .sl (some r) len none => (match bk r.1 with
    | some (.cells cs es _ _) =>
      if es = esz ∧ 0 < esz ∧ len * esz + r.2 ≤ cs.length then
        (match mx with
        | none => (match boundA len ((cs.length - r.2) / esz) hi with
          | some h => (match boundA 0 h lo with
            | some l => some (.sl (some (r.1, r.2 + l * esz)) (h - l) none)
            | none => none)
          | none => none)
        | some mx => (match boundA ((cs.length - r.2) / esz) ((cs.length - r.2) / esz) (some mx) with
          | some m => (match boundA len m hi with
            | some h => (match boundA 0 h lo with
              | some l => some (.sl (some (if m = l then r else (r.1, r.2 + l * esz))) (h - l) (some (m - l)))
              | none => none)
            | none => none)
          | none => none))
      else none
    | _ => none)
  | _ => none
theorem sl_eq (esz : Nat) (x : AV) (lo hi mx : Option AV) : slS esz x lo hi mx = rdA (slP esz x lo hi mx) := by
  cases x with
  | sl a len cap =>
    cases cap with
    | some c =>
      funext H
      simp only [slS, rdA, slP]
      cases boundA c c mx with
      | none => rfl
      | some m =>
        simp only [need]
        cases boundA len m hi with
        | none => rfl
        | some h =>
          simp only
          cases boundA 0 h lo <;> rfl
    | none =>
      cases a with
      | none => rfl
      | some r =>
        funext H
        simp only [slS, rdA, slP, AH.blk?]
        cases H.bk r.1 with
        | none => rfl
        | some y =>
          cases y with
          | iter s p => rfl
          | cells cs es g o =>
            simp only
            split
            · cases mx with
              | none =>
                simp only [need]
                cases boundA len ((cs.length - r.2) / esz) hi with
                | none => rfl
                | some h => simp only; cases boundA 0 h lo <;> rfl
              | some mx =>
                simp only [need]
                cases boundA ((cs.length - r.2) / esz) ((cs.length - r.2) / esz) (some mx) with
                | none => rfl
                | some m =>
                  simp only
                  cases boundA len m hi with
                  | none => rfl
                  | some h => simp only; cases boundA 0 h lo <;> rfl
            · rfl
  | _ => rfl
def srcP (esz n : Nat) (y : AV) (bk : Bk) : Option (List AV) := match y with
  | .sl none _ _ => some []
  | .sl (some r) _ _ => rdnP bk r (n * esz)
  | .str s => if esz = 1 then some ((byteCells s).take n) else none
  | _ => none
theorem src_eq (esz n : Nat) (y : AV) (H : AH) : srcCells esz n y H = (srcP esz n y H.bk).map (·, H) := by
  cases y with
  | sl a len c => cases a <;> rfl
  | str s => simp only [srcCells, srcP]; split <;> rfl
  | _ => rfl
def appP' (esz bytes : Nat) (x : AV) (k : Nat) (new : List AV) (bk : Bk) (nx : Nat) : Option Pl := match x with
  | .sl a len cap =>
    if k = 0 then some ⟨x, [], 0⟩ else
    if len + k ≤ 4294967296 ∧ bytes ≤ 4096 ∧ 0 < bytes ∧ 0 < esz ∧ new.length = k * esz ∧ new.all AV.isCell = true then
      (match a with
      | none => some (newP new esz true nx fun b => .sl (some (b, 0)) (len + k) none)
      | some r => (match cap with
        | some c => if len + k ≤ c then stnP bk (r.1, r.2 + len * esz) new (.sl (some r) (len + k) (some c)) else
            (match rdnP bk r (len * esz) with
            | some old => some (newP (old ++ new) esz true nx fun b => .sl (some (b, 0)) (len + k) none)
            | none => none)
        | none => (match bk r.1 with
          | some (.cells cs es g own) =>
            if es = esz ∧ r.2 + len * esz ≤ cs.length then
              if r.2 + (len + k) * esz ≤ cs.length then stnP bk (r.1, r.2 + len * esz) new (.sl (some r) (len + k) none)
              else if g = true ∧ own = true then some ⟨.sl (some (nx, 0)) (len + k) none, [(r.1, none), (nx, some (.cells ((cs.drop r.2).take (len * esz) ++ new) esz true true))], 1⟩
              else none
            else none
          | _ => none)))
    else none
  | _ => none
theorem appCells_eq (esz bytes : Nat) (x : AV) (k : Nat) (new : List AV) (H : AH) : appCells esz bytes x k new H = exA (appP' esz bytes x k new) H := by
  cases x with
  | sl a len cap =>
    simp only [appCells, exA, appP']
    split
    · rfl
    · split
      · cases a with
        | none => rfl
        | some r =>
          cases cap with
          | some c =>
            simp only
            split
            · exact congrFun (stn_eq (r.1, r.2 + len * esz) new (.sl (some r) (len + k) (some c))) H
            · simp only [bnd, ldn, rdn_eq]
              cases rdnP H.bk r (len * esz) <;> rfl
          | none =>
            simp only [AH.blk?]
            cases hb : H.bk r.1 with
            | none => rfl
            | some y =>
              cases y with
              | iter s p => rfl
              | cells cs es g o =>
                simp only
                split
                · split
                  · exact congrFun (stn_eq (r.1, r.2 + len * esz) new (.sl (some r) (len + k) none)) H
                  · split <;> rfl
                · rfl
      · rfl
  | _ => rfl
def appP (esz bytes : Nat) (x y : AV) (bk : Bk) (nx : Nat) : Option Pl := match srcLen y with
  | some k => (match srcP esz k y bk with
    | some new => fL new fun new => appP' esz bytes x k new bk nx
    | none => none)
  | none => none
theorem app_eq (esz bytes : Nat) (x y : AV) : app esz bytes x y = exA (appP esz bytes x y) := by
  funext H
  simp only [app, exA, appP]
  cases srcLen y with
  | none => rfl
  | some k =>
    simp only [need, bnd, src_eq]
    cases srcP esz k y H.bk with
    | none => rfl
    | some new => simp only [Option.map, fL_eq]; exact appCells_eq ..
def appZP (esz bytes : Nat) (zs : List AV) (x y : AV) (bk : Bk) (nx : Nat) : Option Pl := match y with
  | .int _ n => if 0 ≤ n ∧ n ≤ 4294967296 then appP' esz bytes x n.toNat (repCells zs n.toNat) bk nx else none
  | _ => none
theorem appZ_eq (esz bytes : Nat) (zs : List AV) (x y : AV) : appZ esz bytes zs x y = exA (appZP esz bytes zs x y) := by
  funext H
  cases y <;> first | rfl | (simp only [appZ, exA, appZP]; split <;> first | exact appCells_eq .. | rfl)
def cpyP (esz : Nat) (x y : AV) (bk : Bk) (_ : Nat) : Option Pl := match x with
  | .sl a len _ => (match srcLen y with
    | some k => (match srcP esz (min k len) y bk with
      | some new => (match a with
        | none => some ⟨.int .i64 (min k len : Nat), [], 0⟩
        | some r => if min k len = 0 then some ⟨.int .i64 0, [], 0⟩ else stnP bk r new (.int .i64 (min k len : Nat)))
      | none => none)
    | none => none)
  | _ => none
theorem cpy_eq (esz : Nat) (x y : AV) : cpy esz x y = exA (cpyP esz x y) := by
  funext H
  cases x with
  | sl a len c =>
    simp only [cpy, exA, cpyP]
    cases srcLen y with
    | none => rfl
    | some k =>
      simp only [need, bnd, src_eq]
      cases srcP esz (min k len) y H.bk with
      | none => rfl
      | some new =>
        simp only [Option.map]
        cases a with
        | none => rfl
        | some r =>
          simp only
          split
          · rfl
          · exact congrFun (stn_eq r new (.int .i64 (min k len : Nat))) H
  | _ => rfl
def clrP (zs : List AV) (x : AV) (bk : Bk) (_ : Nat) : Option Pl := match x with
  | .sl none _ _ => some ⟨undefA, [], 0⟩
  | .sl (some r) n _ => if n = 0 then some ⟨undefA, [], 0⟩ else stnP bk r (repCells zs n) undefA
  | _ => none
theorem clr_eq (zs : List AV) (x : AV) : clr zs x = exA (clrP zs x) := by
  funext H
  cases x with
  | sl a n c =>
    cases a with
    | none => rfl
    | some r =>
      simp only [clr, exA, clrP]
      split
      · rfl
      · exact congrFun (stn_eq r (repCells zs n) undefA) H
  | _ => rfl
def sbP (x : AV) (_ : Bk) (nx : Nat) : Option Pl := match x with
  | .str s => if s.size ≤ 4294967296 then some (newP (byteCells s) 1 true nx fun b => .sl (some (b, 0)) s.size none) else none
  | _ => none
theorem sb_eq (x : AV) : cvSB x = exA (sbP x) := by
  cases x <;> first | rfl | (funext H; simp only [cvSB, s2b, exA, sbP]; split <;> rfl)
def srP (x : AV) (_ : Bk) (nx : Nat) : Option Pl := match x with
  | .str s => if s.size ≤ 4294967296 then some (newP (runeCells s s.size 0) 1 true nx fun b => .sl (some (b, 0)) (runeCells s s.size 0).length none) else none
  | _ => none
theorem sr_eq (x : AV) : cvSR x = exA (srP x) := by
  cases x <;> first | rfl | (funext H; simp only [cvSR, s2r, exA, srP]; split <;> rfl)
def cbP (x : AV) (bk : Bk) : Option AV := match x with
  | .int _ n => some (.str (Utf8.encode n))
  | .str s => some (.str s)
  | .sl none _ _ => some (.str .empty)
  | .sl (some r) len _ => (match rdnP bk r len with
    | some cs => (match bytesOf cs with
      | some l => some (.str ⟨⟨l⟩⟩)
      | none => none)
    | none => none)
  | _ => none
theorem cb_eq (x : AV) : cvB x = rdA (cbP x) := by
  funext H
  cases x with
  | sl a len c =>
    cases a with
    | none => rfl
    | some r =>
      simp only [cvB, b2s, bnd, ldn, rdn_eq, rdA, cbP]
      cases rdnP H.bk r len with
      | none => rfl
      | some cs => simp only [Option.map]; cases bytesOf cs <;> rfl
  | _ => rfl
def crP (x : AV) (bk : Bk) : Option AV := match x with
  | .int _ n => some (.str (Utf8.encode n))
  | .str s => some (.str s)
  | .sl none _ _ => some (.str .empty)
  | .sl (some r) len _ => (match rdnP bk r len with
    | some cs => (match runesOf cs with
      | some s => some (.str s)
      | none => none)
    | none => none)
  | _ => none
theorem cr_eq (x : AV) : cvR x = rdA (crP x) := by
  funext H
  cases x with
  | sl a len c =>
    cases a with
    | none => rfl
    | some r =>
      simp only [cvR, r2s, bnd, ldn, rdn_eq, rdA, crP]
      cases rdnP H.bk r len with
      | none => rfl
      | some cs => simp only [Option.map]; cases runesOf cs <;> rfl
  | _ => rfl
def rnP (x : AV) (_ : Bk) (nx : Nat) : Option Pl := match x with
  | .str s => some ⟨.ptr (some (nx, 0)), [(nx, some (.iter s 0))], 1⟩
  | _ => none
theorem rn_eq (x : AV) : rngS x = exA (rnP x) := by cases x <;> rfl
def nxP (x : AV) (bk : Bk) (_ : Nat) : Option Pl := match x with
  | .ptr (some (b, o)) => (match o with
    | 0 => (match bk b with
      | some (.iter s pos) =>
        if pos < s.size then some ⟨.tup [.bool true, .int .i64 pos, .int .i32 (Utf8.decode s pos).1], [(b, some (.iter s (pos + (Utf8.decode s pos).2)))], 0⟩
        else some ⟨.tup [.bool false], [], 0⟩
      | _ => none)
    | _ + 1 => none)
  | _ => none
theorem nx_eq (x : AV) : nextS x = exA (nxP x) := by
  cases x with
  | ptr r =>
    cases r with
    | none => rfl
    | some r =>
      obtain ⟨b, o⟩ := r
      cases o with
      | succ o => rfl
      | zero =>
        funext H
        simp only [nextS, exA, nxP]
        cases H.bk b with
        | none => rfl
        | some y =>
          cases y with
          | cells cs es g o => rfl
          | iter s pos => simp only; split <;> rfl
  | _ => rfl
theorem rdnP_mono {f g : Bk} (h : Sub f g) {r : Ref} {n : Nat} {cs : List AV} (e : rdnP f r n = some cs) : rdnP g r n = some cs := by
  unfold rdnP at e ⊢
  cases hb : f r.1 with
  | none => simp [hb] at e
  | some x => rw [h _ _ hb]; rw [hb] at e; exact e
theorem ldP_mn (a : AV) : MnR (ldP a) := by
  intro f g q h e
  unfold ldP at e ⊢
  cases a with
  | ptr r =>
    cases r with
    | none => cases e
    | some r =>
      dsimp only at e ⊢
      cases hb : f r.1 with
      | none => simp [hb] at e
      | some x => rw [h _ _ hb]; rw [hb] at e; exact e
  | _ => cases e
theorem ldaP_mn (n : Nat) (a : AV) : MnR (ldaP n a) := by
  intro f g q h e
  unfold ldaP at e ⊢
  cases a with
  | ptr r =>
    cases r with
    | none => cases e
    | some r =>
      dsimp only at e ⊢
      cases hb : rdnP f r n with
      | none => simp [hb] at e
      | some x => rw [rdnP_mono h hb]; rw [hb] at e; exact e
  | _ => cases e
theorem stnP_mono {f g : Bk} (h : Sub f g) {r : Ref} {vs : List AV} {v : AV} {q : Pl} (e : stnP f r vs v = some q) : stnP g r vs v = some q := by
  unfold stnP at e ⊢
  cases hb : f r.1 with
  | none => simp [hb] at e
  | some x => rw [h _ _ hb]; rw [hb] at e; exact e
theorem st1P_mono {f g : Bk} (h : Sub f g) {r : Ref} {x v : AV} {q : Pl} (e : st1P f r x v = some q) : st1P g r x v = some q := by
  unfold st1P at e ⊢
  cases hb : f r.1 with
  | none => simp [hb] at e
  | some x => rw [h _ _ hb]; rw [hb] at e; exact e
theorem stP_mn (n : Nat) (a v : AV) : Mn (stP n a v) := by
  intro f g nx q h e
  unfold stP at e ⊢
  cases a with
  | ptr r =>
    cases r with
    | none => cases e
    | some r =>
      cases v with
      | agg cs =>
        dsimp only at e ⊢
        split at e
        · rename_i hc; rw [if_pos hc]; exact stnP_mono h e
        · cases e
      | _ =>
        dsimp only at e ⊢
        split at e
        · rename_i hc; rw [if_pos hc]; exact st1P_mono h e
        · cases e
  | _ => cases e
theorem still_mn {p : Bk → Nat → Option Pl} (h : ∀ f g nx, p f nx = p g nx) : Mn p := fun f g nx q _ e => by rw [h g f]; exact e
theorem slP_mn (esz : Nat) (x : AV) (lo hi mx : Option AV) : MnR (slP esz x lo hi mx) := by
  intro f g q h e
  unfold slP at e ⊢
  cases x with
  | sl a len cap =>
    cases cap with
    | some c => exact e
    | none =>
      cases a with
      | none => cases e
      | some r =>
        dsimp only at e ⊢
        cases hb : f r.1 with
        | none => simp [hb] at e
        | some x => rw [h _ _ hb]; rw [hb] at e; exact e
  | _ => cases e
theorem srcP_mono {f g : Bk} (h : Sub f g) {esz n : Nat} {y : AV} {cs : List AV} (e : srcP esz n y f = some cs) : srcP esz n y g = some cs := by
  unfold srcP at e ⊢
  cases y with
  | sl a len c =>
    cases a with
    | none => exact e
    | some r => exact rdnP_mono h e
  | str s => exact e
  | _ => cases e
theorem appP'_mn (esz bytes : Nat) (x : AV) (k : Nat) (new : List AV) : Mn (appP' esz bytes x k new) := by
  intro f g nx q h e
  unfold appP' at e ⊢
  cases x with
  | sl a len cap =>
    dsimp only at e ⊢
    split at e
    · rename_i hk; rw [if_pos hk]; exact e
    · rename_i hk
      rw [if_neg hk]
      split at e
      · rename_i hc
        rw [if_pos hc]
        cases a with
        | none => exact e
        | some r =>
          cases cap with
          | some c =>
            dsimp only at e ⊢
            split at e
            · rename_i h2; rw [if_pos h2]; exact stnP_mono h e
            · rename_i h2
              rw [if_neg h2]
              cases hb : rdnP f r (len * esz) with
              | none => simp [hb] at e
              | some cs => rw [rdnP_mono h hb]; rw [hb] at e; exact e
          | none =>
            dsimp only at e ⊢
            cases hb : f r.1 with
            | none => simp [hb] at e
            | some y =>
              rw [h _ _ hb]
              rw [hb] at e
              cases y with
              | iter s p => cases e
              | cells cs es gr own =>
                dsimp only at e ⊢
                split at e
                · rename_i h1
                  rw [if_pos h1]
                  split at e
                  · rename_i h2; rw [if_pos h2]; exact stnP_mono h e
                  · rename_i h2; rw [if_neg h2]; exact e
                · cases e
      · cases e
  | _ => cases e
theorem appP_mn (esz bytes : Nat) (x y : AV) : Mn (appP esz bytes x y) := by
  intro f g nx q h e
  unfold appP at e ⊢
  cases hk : srcLen y with
  | none => simp [hk] at e
  | some k =>
    rw [hk] at e
    dsimp only at e ⊢
    cases hb : srcP esz k y f with
    | none => simp [hb] at e
    | some cs =>
      rw [srcP_mono h hb]
      rw [hb] at e
      simp only [fL_eq] at e ⊢
      exact appP'_mn _ _ _ _ _ _ _ _ _ h e
theorem appZP_mn (esz bytes : Nat) (zs : List AV) (x y : AV) : Mn (appZP esz bytes zs x y) := by
  intro f g nx q h e
  unfold appZP at e ⊢
  cases y with
  | int k n =>
    dsimp only at e ⊢
    split at e
    · rename_i h2; rw [if_pos h2]; exact appP'_mn _ _ _ _ _ _ _ _ _ h e
    · cases e
  | _ => cases e
theorem cpyP_mn (esz : Nat) (x y : AV) : Mn (cpyP esz x y) := by
  intro f g nx q h e
  unfold cpyP at e ⊢
  cases x with
  | sl a len c =>
    dsimp only at e ⊢
    cases hk : srcLen y with
    | none => simp [hk] at e
    | some k =>
      rw [hk] at e
      dsimp only at e ⊢
      cases hb : srcP esz (min k len) y f with
      | none => simp [hb] at e
      | some cs =>
        rw [srcP_mono h hb]
        rw [hb] at e
        dsimp only at e ⊢
        cases a with
        | none => exact e
        | some r =>
          dsimp only at e ⊢
          split at e
          · rename_i h2; rw [if_pos h2]; exact e
          · rename_i h2; rw [if_neg h2]; exact stnP_mono h e
  | _ => cases e
theorem clrP_mn (zs : List AV) (x : AV) : Mn (clrP zs x) := by
  intro f g nx q h e
  unfold clrP at e ⊢
  cases x with
  | sl a n c =>
    cases a with
    | none => exact e
    | some r =>
      dsimp only at e ⊢
      split at e
      · rename_i h2; rw [if_pos h2]; exact e
      · rename_i h2; rw [if_neg h2]; exact stnP_mono h e
  | _ => cases e
theorem cbP_mn (x : AV) : MnR (cbP x) := by
  intro f g q h e
  unfold cbP at e ⊢
  cases x with
  | sl a n c =>
    cases a with
    | none => exact e
    | some r =>
      dsimp only at e ⊢
      cases hb : rdnP f r n with
      | none => simp [hb] at e
      | some cs => rw [rdnP_mono h hb]; rw [hb] at e; exact e
  | _ => first | exact e | cases e
theorem crP_mn (x : AV) : MnR (crP x) := by
  intro f g q h e
  unfold crP at e ⊢
  cases x with
  | sl a n c =>
    cases a with
    | none => exact e
    | some r =>
      dsimp only at e ⊢
      cases hb : rdnP f r n with
      | none => simp [hb] at e
      | some cs => rw [rdnP_mono h hb]; rw [hb] at e; exact e
  | _ => first | exact e | cases e
theorem nxP_mn (x : AV) : Mn (nxP x) := by
  intro f g nx q h e
  unfold nxP at e ⊢
  cases x with
  | ptr r =>
    cases r with
    | none => cases e
    | some r =>
      obtain ⟨b, o⟩ := r
      cases o with
      | succ o => cases e
      | zero =>
        dsimp only at e ⊢
        cases hb : f b with
        | none => simp [hb] at e
        | some y => rw [h _ _ hb]; rw [hb] at e; exact e
  | _ => cases e
end Go.Ab
