/- The machine over any memory: the record of what touches memory, and when one machine follows another. -/
import Derived.Test.YtchikbhlojpolaaGreatSh
namespace Go.Ab
open Go

structure Hp (S : Type) where
  ld : AV → MS S AV
  lda : Nat → AV → MS S AV
  st : Nat → AV → AV → MS S AV
  alP : List AV → MS S AV
  boxA : AV → MS S AV
  bsA : List AV → Nat → Nat → List (Nat × AV) → MS S AV
  mkS : Nat → Nat → List AV → AV → AV → MS S AV
  slS : Nat → AV → Option AV → Option AV → Option AV → MS S AV
  app : Nat → Nat → AV → AV → MS S AV
  appZ : Nat → Nat → List AV → AV → AV → MS S AV
  cpy : Nat → AV → AV → MS S AV
  clr : List AV → AV → MS S AV
  cvSB : AV → MS S AV
  cvSR : AV → MS S AV
  cvB : AV → MS S AV
  cvR : AV → MS S AV
  rngS : AV → MS S AV
  nextS : AV → MS S AV
  bin : BinOp → AV → AV → MS S AV
  eqX : Bool → Bool → Bool → Bool → Bool → BinOp → AV → AV → MS S AV
  idxS : Nat → AV → AV → MS S AV
  idxR : Nat → Nat → AV → AV → MS S AV
  cvI : IntKind → AV → MS S AV
  ckg : Option Bool → MS S AV → AV → MS S Out → MS S Out
  fl : Nat → (Nat → MS S Out) → MS S Out
  ro : MS S AV → MS S AV
  hv : MS S AV → List (Option (MS S AV × AV)) → MS S AV
  mrg : Nat → List Nat → (Nat → Option Blk) → MS S Unit

def hvGg {S : Type} (h : Hp S) (n0 : Nat) (l : List Nat) (G : Nat → Option Blk) (m : MS S AV) (r : List (Option (MS S AV × AV))) : MS S AV :=
  bnd (h.mrg n0 l G) fun _ => h.hv m r

-- so many arguments, no more
noncomputable section
def q0 {S : Type} (f : MS S AV) (vs : List AV) : MS S AV := List.rec (motive := fun _ => MS S AV) (f) (fun _ _ _ => fail) vs
def q1 {S : Type} (f : AV → MS S AV) (vs : List AV) : MS S AV := List.rec (motive := fun _ => MS S AV) fail (fun a l _ => List.rec (motive := fun _ => MS S AV) (f a) (fun _ _ _ => fail) l) vs
def q2 {S : Type} (f : AV → AV → MS S AV) (vs : List AV) : MS S AV := List.rec (motive := fun _ => MS S AV) fail (fun a l _ => List.rec (motive := fun _ => MS S AV) fail (fun b l _ => List.rec (motive := fun _ => MS S AV) (f a b) (fun _ _ _ => fail) l) l) vs
def q3 {S : Type} (f : AV → AV → AV → MS S AV) (vs : List AV) : MS S AV := List.rec (motive := fun _ => MS S AV) fail (fun a l _ => List.rec (motive := fun _ => MS S AV) fail (fun b l _ => List.rec (motive := fun _ => MS S AV) fail (fun c l _ => List.rec (motive := fun _ => MS S AV) (f a b c) (fun _ _ _ => fail) l) l) l) vs
def q4 {S : Type} (f : AV → AV → AV → AV → MS S AV) (vs : List AV) : MS S AV := List.rec (motive := fun _ => MS S AV) fail (fun a l _ => List.rec (motive := fun _ => MS S AV) fail (fun b l _ => List.rec (motive := fun _ => MS S AV) fail (fun c l _ => List.rec (motive := fun _ => MS S AV) fail (fun d l _ => List.rec (motive := fun _ => MS S AV) (f a b c d) (fun _ _ _ => fail) l) l) l) l) vs
def q5 {S : Type} (f : AV → AV → AV → AV → AV → MS S AV) (vs : List AV) : MS S AV := List.rec (motive := fun _ => MS S AV) fail (fun a l _ => List.rec (motive := fun _ => MS S AV) fail (fun b l _ => List.rec (motive := fun _ => MS S AV) fail (fun c l _ => List.rec (motive := fun _ => MS S AV) fail (fun d l _ => List.rec (motive := fun _ => MS S AV) fail (fun e l _ => List.rec (motive := fun _ => MS S AV) (f a b c d e) (fun _ _ _ => fail) l) l) l) l) l) vs
def q6 {S : Type} (f : AV → AV → AV → AV → AV → AV → MS S AV) (vs : List AV) : MS S AV := List.rec (motive := fun _ => MS S AV) fail (fun a l _ => List.rec (motive := fun _ => MS S AV) fail (fun b l _ => List.rec (motive := fun _ => MS S AV) fail (fun c l _ => List.rec (motive := fun _ => MS S AV) fail (fun d l _ => List.rec (motive := fun _ => MS S AV) fail (fun e l _ => List.rec (motive := fun _ => MS S AV) fail (fun g l _ => List.rec (motive := fun _ => MS S AV) (f a b c d e g) (fun _ _ _ => fail) l) l) l) l) l) l) vs
end
/-- Binding, laid for quick reckoning. -/
noncomputable def bnK {S α β : Type} (x : MS S α) (f : α → MS S β) : MS S β := fun H => Option.rec (motive := fun _ => Option (β × S)) none (fun p => Prod.rec (motive := fun _ => Option (β × S)) (fun a H => f a H) p) (x H)
theorem bnK_eq {S α β : Type} (x : MS S α) (f : α → MS S β) : bnK x f = bnd x f := by
  funext H; simp only [bnK, bnd]; cases x H <;> rfl
/-- The machine of the proofs. -/
noncomputable def AHp : Hp AH where
  ld := ld
  lda := lda
  st := st
  alP := alP
  boxA := boxA
  bsA := bsA
  mkS := mkS
  slS := slS
  app := app
  appZ := appZ
  cpy := cpy
  clr := clr
  cvSB := cvSB
  cvSR := cvSR
  cvB := cvB
  cvR := cvR
  rngS := rngS
  nextS := nextS
  bin := bin
  eqX := eqX
  idxS := idxS
  idxR := idxR
  cvI := cvI
  ckg := ckg
  fl := fl
  ro := ro
  hv := hv
  mrg := mrg

section
variable {S T α β : Type} (R : S → T → Prop)
/-- What m comes to, m' comes to, in memory that is alike. -/
def Sm (m : MS S α) (m' : MS T α) : Prop := ∀ s t a s', R s t → m s = some (a, s') → ∃ t', m' t = some (a, t') ∧ R s' t'
/-- Memory is left as it is. -/
def St (m : MS S α) : Prop := ∀ s a s', m s = some (a, s') → s' = s
inductive LR : List (Option (MS S AV × AV)) → List (Option (MS T AV × AV)) → Prop
  | nil : LR [] []
  | none {l l'} (h : LR l l') : LR (none :: l) (none :: l')
  | some {m m' v l l'} (hs : St m) (hs' : St m') (hm : Sm R m m') (h : LR l l') : LR (some (m, v) :: l) (some (m', v) :: l')
theorem LR.rG {w : Bool} {c v : AV} {m : MS S AV} {m' : MS T AV} {l l'} (hs : St m) (hs' : St m') (hm : Sm R m m') (h : LR R l l') : LR R (rG w c m v :: l) (rG w c m' v :: l') := by
  unfold Ab.rG
  split
  · exact .some hs hs' hm h
  · exact .none h

structure HpR (h : Hp S) (k : Hp T) : Prop where
  ld : ∀ a, Sm R (h.ld a) (k.ld a)
  lda : ∀ a b, Sm R (h.lda a b) (k.lda a b)
  st : ∀ a b c, Sm R (h.st a b c) (k.st a b c)
  alP : ∀ a, Sm R (h.alP a) (k.alP a)
  boxA : ∀ a, Sm R (h.boxA a) (k.boxA a)
  bsA : ∀ a b c d, Sm R (h.bsA a b c d) (k.bsA a b c d)
  mkS : ∀ a b c d e, Sm R (h.mkS a b c d e) (k.mkS a b c d e)
  slS : ∀ a b c d e, Sm R (h.slS a b c d e) (k.slS a b c d e)
  app : ∀ a b c d, Sm R (h.app a b c d) (k.app a b c d)
  appZ : ∀ a b c d e, Sm R (h.appZ a b c d e) (k.appZ a b c d e)
  cpy : ∀ a b c, Sm R (h.cpy a b c) (k.cpy a b c)
  clr : ∀ a b, Sm R (h.clr a b) (k.clr a b)
  cvSB : ∀ a, Sm R (h.cvSB a) (k.cvSB a)
  cvSR : ∀ a, Sm R (h.cvSR a) (k.cvSR a)
  cvB : ∀ a, Sm R (h.cvB a) (k.cvB a)
  cvR : ∀ a, Sm R (h.cvR a) (k.cvR a)
  rngS : ∀ a, Sm R (h.rngS a) (k.rngS a)
  nextS : ∀ a, Sm R (h.nextS a) (k.nextS a)
  bin : ∀ a b c, Sm R (h.bin a b c) (k.bin a b c)
  eqX : ∀ a b c d e o x y, Sm R (h.eqX a b c d e o x y) (k.eqX a b c d e o x y)
  idxS : ∀ a b c, Sm R (h.idxS a b c) (k.idxS a b c)
  idxR : ∀ a b c d, Sm R (h.idxR a b c d) (k.idxR a b c d)
  cvI : ∀ a b, Sm R (h.cvI a b) (k.cvI a b)
  ckg : ∀ g {m m' v r r'}, St m → St m' → Sm R m m' → Sm R r r' → Sm R (h.ckg g m v r) (k.ckg g m' v r')
  fl : ∀ n {f f'}, (∀ i, Sm R (f i) (f' i)) → Sm R (h.fl n f) (k.fl n f')
  ro : ∀ {m m'}, St m → St m' → Sm R m m' → Sm R (h.ro m) (k.ro m')
  hv : ∀ {m m' l l'}, Sm R m m' → LR R l l' → Sm R (h.hv m l) (k.hv m' l')
  mrg : ∀ n l G, Sm R (h.mrg n l G) (k.mrg n l G)
  ldS : ∀ a, St (h.ld a)
  ldaS : ∀ a b, St (h.lda a b)
  slSS : ∀ a b c d e, St (h.slS a b c d e)
  cvBS : ∀ a, St (h.cvB a)
  cvRS : ∀ a, St (h.cvR a)
  roS : ∀ m, St m → St (h.ro m)
  ldS' : ∀ a, St (k.ld a)
  ldaS' : ∀ a b, St (k.lda a b)
  slSS' : ∀ a b c d e, St (k.slS a b c d e)
  cvBS' : ∀ a, St (k.cvB a)
  cvRS' : ∀ a, St (k.cvR a)
  roS' : ∀ m, St m → St (k.ro m)

variable {R}
theorem Sm.ret (a : α) : Sm R (ret a : MS S α) (Ab.ret a) := by
  intro s t b s' r h; simp only [Ab.ret] at h ⊢; cases h; exact ⟨t, rfl, r⟩
theorem Sm.fail : Sm R (fail : MS S α) (Ab.fail : MS T α) := by intro s t b s' _ h; cases h
theorem Sm.fail' {m : MS T α} : Sm R (Ab.fail : MS S α) m := by intro s t b s' _ h; cases h
theorem Sm.bnd {m : MS S α} {m' : MS T α} {f : α → MS S β} {f' : α → MS T β} (h : Sm R m m') (k : ∀ a, Sm R (f a) (f' a)) : Sm R (bnd m f) (Ab.bnd m' f') := by
  intro s t b s' r e
  simp only [Ab.bnd] at e ⊢
  cases hm : m s with
  | none => simp [hm] at e
  | some p =>
    simp only [hm] at e
    obtain ⟨t1, h1, r1⟩ := h s t p.1 p.2 r hm
    simp only [h1]
    exact k p.1 p.2 t1 b s' r1 e
theorem Sm.bnK {m : MS S α} {m' : MS T α} {f : α → MS S β} {f' : α → MS T β} (h : Sm R m m') (k : ∀ a, Sm R (f a) (f' a)) : Sm R (bnK m f) (Ab.bnK m' f') := by
  rw [bnK_eq, bnK_eq]; exact Sm.bnd h k
theorem Sm.need {x : Option α} {f : α → MS S β} {f' : α → MS T β} (k : ∀ a, Sm R (f a) (f' a)) : Sm R (need x f) (Ab.need x f') := by
  cases x with
  | none => exact Sm.fail
  | some a => exact k a
theorem Sm.ite {c : Prop} [Decidable c] {m n : MS S α} {m' n' : MS T α} (h : Sm R m m') (k : Sm R n n') : Sm R (if c then m else n) (if c then m' else n') := by
  split <;> assumption
theorem Sm.cond {c : Bool} {m n : MS S α} {m' n' : MS T α} (h : Sm R m m') (k : Sm R n n') : Sm R (bif c then m else n) (bif c then m' else n') := by
  cases c <;> assumption
theorem Sm.iteM {c : AV} {m n : MS S α} {m' n' : MS T α} (h : Sm R m m') (k : Sm R n n') : Sm R (iteM c m n) (Ab.iteM c m' n') := by
  cases c <;> first | exact Sm.fail | exact Sm.ite h k
theorem Sm.dsp {k : List AV → MS S Out} {k' : List AV → MS T Out} (h : ∀ ws, Sm R (k ws) (k' ws)) (o : Out) : Sm R (dsp k o) (Ab.dsp k' o) := by
  cases o <;> first | exact h _ | exact Sm.ret _
theorem Sm.dspB {i : Nat} {k : List AV → MS S Out} {k' : List AV → MS T Out} (h : ∀ ws, Sm R (k ws) (k' ws)) (o : Out) : Sm R (dspB i k o) (Ab.dspB i k' o) := by
  cases o with
  | nrm ws => exact h _
  | ext j ws => exact Sm.ite (h _) (Sm.ret _)
  | ret vs => exact Sm.ret _
theorem Sm.fnR {m : MS S Out} {m' : MS T Out} (h : Sm R m m') : Sm R (fnR m) (Ab.fnR m') := by
  refine Sm.bnd h fun o => ?_
  cases o <;> first | exact Sm.ret _ | exact Sm.fail
theorem Sm.guarded {g : Option Bool} {m : MS S AV} {m' : MS T AV} (h : Sm R m m') : Sm R (guarded g m) (Ab.guarded g m') := by
  cases g with
  | none => exact Sm.fail
  | some b => cases b <;> first | exact h | exact Sm.ret _
theorem Sm.gd {w : Bool} {c : AV} {m : MS S AV} {m' : MS T AV} (h : Sm R m m') : Sm R (gd w c m) (Ab.gd w c m') := Sm.guarded h
theorem Sm.w0 {f : MS S Out} {f' : MS T Out} (h : Sm R f f') (ws : List AV) : Sm R (w0 f ws) (Ab.w0 f' ws) := h
theorem Sm.w1 {f : AV → MS S Out} {f' : AV → MS T Out} (h : ∀ a, Sm R (f a) (f' a)) (ws : List AV) : Sm R (w1 f ws) (Ab.w1 f' ws) := h _
theorem Sm.w2 {f : AV → AV → MS S Out} {f' : AV → AV → MS T Out} (h : ∀ a b, Sm R (f a b) (f' a b)) (ws : List AV) : Sm R (w2 f ws) (Ab.w2 f' ws) := h _ _
theorem Sm.w3 {f : AV → AV → AV → MS S Out} {f' : AV → AV → AV → MS T Out} (h : ∀ a b c, Sm R (f a b c) (f' a b c)) (ws : List AV) : Sm R (w3 f ws) (Ab.w3 f' ws) := h _ _ _
theorem Sm.w4 {f : AV → AV → AV → AV → MS S Out} {f' : AV → AV → AV → AV → MS T Out} (h : ∀ a b c d, Sm R (f a b c d) (f' a b c d)) (ws : List AV) : Sm R (w4 f ws) (Ab.w4 f' ws) := h _ _ _ _
theorem Sm.w5 {f : AV → AV → AV → AV → AV → MS S Out} {f' : AV → AV → AV → AV → AV → MS T Out} (h : ∀ a b c d e, Sm R (f a b c d e) (f' a b c d e)) (ws : List AV) : Sm R (w5 f ws) (Ab.w5 f' ws) := h _ _ _ _ _
theorem Sm.q0 {f : MS S AV} {f' : MS T AV} (h : Sm R f f') (vs : List AV) : Sm R (q0 f vs) (Ab.q0 f' vs) := by
  cases vs with
  | nil => exact h
  | cons _ _ => exact Sm.fail
theorem Sm.q1 {f : AV → MS S AV} {f' : AV → MS T AV} (h : ∀ a, Sm R (f a) (f' a)) (vs : List AV) : Sm R (q1 f vs) (Ab.q1 f' vs) := by
  cases vs with
  | nil => exact Sm.fail
  | cons a0 vs =>
    cases vs with
    | nil => exact h _
    | cons _ _ => exact Sm.fail
theorem Sm.q2 {f : AV → AV → MS S AV} {f' : AV → AV → MS T AV} (h : ∀ a b, Sm R (f a b) (f' a b)) (vs : List AV) : Sm R (q2 f vs) (Ab.q2 f' vs) := by
  cases vs with
  | nil => exact Sm.fail
  | cons a0 vs =>
    cases vs with
    | nil => exact Sm.fail
    | cons a1 vs =>
      cases vs with
      | nil => exact h _ _
      | cons _ _ => exact Sm.fail
theorem Sm.q3 {f : AV → AV → AV → MS S AV} {f' : AV → AV → AV → MS T AV} (h : ∀ a b c, Sm R (f a b c) (f' a b c)) (vs : List AV) : Sm R (q3 f vs) (Ab.q3 f' vs) := by
  cases vs with
  | nil => exact Sm.fail
  | cons a0 vs =>
    cases vs with
    | nil => exact Sm.fail
    | cons a1 vs =>
      cases vs with
      | nil => exact Sm.fail
      | cons a2 vs =>
        cases vs with
        | nil => exact h _ _ _
        | cons _ _ => exact Sm.fail
theorem Sm.q4 {f : AV → AV → AV → AV → MS S AV} {f' : AV → AV → AV → AV → MS T AV} (h : ∀ a b c d, Sm R (f a b c d) (f' a b c d)) (vs : List AV) : Sm R (q4 f vs) (Ab.q4 f' vs) := by
  cases vs with
  | nil => exact Sm.fail
  | cons a0 vs =>
    cases vs with
    | nil => exact Sm.fail
    | cons a1 vs =>
      cases vs with
      | nil => exact Sm.fail
      | cons a2 vs =>
        cases vs with
        | nil => exact Sm.fail
        | cons a3 vs =>
          cases vs with
          | nil => exact h _ _ _ _
          | cons _ _ => exact Sm.fail
theorem Sm.q5 {f : AV → AV → AV → AV → AV → MS S AV} {f' : AV → AV → AV → AV → AV → MS T AV} (h : ∀ a b c d e, Sm R (f a b c d e) (f' a b c d e)) (vs : List AV) : Sm R (q5 f vs) (Ab.q5 f' vs) := by
  cases vs with
  | nil => exact Sm.fail
  | cons a0 vs =>
    cases vs with
    | nil => exact Sm.fail
    | cons a1 vs =>
      cases vs with
      | nil => exact Sm.fail
      | cons a2 vs =>
        cases vs with
        | nil => exact Sm.fail
        | cons a3 vs =>
          cases vs with
          | nil => exact Sm.fail
          | cons a4 vs =>
            cases vs with
            | nil => exact h _ _ _ _ _
            | cons _ _ => exact Sm.fail
theorem Sm.q6 {f : AV → AV → AV → AV → AV → AV → MS S AV} {f' : AV → AV → AV → AV → AV → AV → MS T AV} (h : ∀ a b c d e g, Sm R (f a b c d e g) (f' a b c d e g)) (vs : List AV) : Sm R (q6 f vs) (Ab.q6 f' vs) := by
  cases vs with
  | nil => exact Sm.fail
  | cons a0 vs =>
    cases vs with
    | nil => exact Sm.fail
    | cons a1 vs =>
      cases vs with
      | nil => exact Sm.fail
      | cons a2 vs =>
        cases vs with
        | nil => exact Sm.fail
        | cons a3 vs =>
          cases vs with
          | nil => exact Sm.fail
          | cons a4 vs =>
            cases vs with
            | nil => exact Sm.fail
            | cons a5 vs =>
              cases vs with
              | nil => exact h _ _ _ _ _ _
              | cons _ _ => exact Sm.fail
theorem Sm.cl {K : KS S} {K' : KS T} (h : ∀ f vs, Sm R (K f vs) (K' f vs)) (f : AV) (vs : List AV) : Sm R (cl K f vs) (Ab.cl K' f vs) := by
  cases f <;> first | exact Sm.fail | exact h _ _
theorem Sm.hvG {h : Hp S} {k : Hp T} (Q : HpR R h k) (n : Nat) (ids : List Nat) (G : Nat → Option Blk) {m m' l l'} (hm : Sm R m m') (hl : LR R l l') : Sm R (hvGg h n ids G m l) (hvGg k n ids G m' l') :=
  Sm.bnd (Q.mrg _ _ _) fun _ => Q.hv hm hl
theorem Sm.pk (c a b : AV) : Sm R (pk c a b) (Ab.pk c a b) := by cases c <;> first | exact Sm.fail | exact Sm.ite (Sm.ret _) (Sm.ret _)
theorem Sm.nilchk (a : AV) : Sm R (nilchk a) (Ab.nilchk a) := by
  cases a with
  | ptr r => cases r <;> first | exact Sm.fail | exact Sm.ret _
  | fn f c => exact Sm.ret _
  | _ => exact Sm.fail
theorem Sm.fldA (o : Nat) (a : AV) : Sm R (fldA o a) (Ab.fldA o a) := by
  cases a with
  | ptr r => cases r <;> first | exact Sm.fail | exact Sm.ret _
  | _ => exact Sm.fail
theorem Sm.idxS (e : Nat) (x i : AV) : Sm R (Ab.idxS e x i) (Ab.idxS e x i) := by
  cases x with
  | sl r n c =>
    cases r with
    | none => exact Sm.fail
    | some r => cases i <;> first | exact Sm.fail | exact Sm.ite (Sm.ret _) Sm.fail
  | _ => exact Sm.fail
theorem Sm.idxR (n e : Nat) (x i : AV) : Sm R (Ab.idxR n e x i) (Ab.idxR n e x i) := by
  cases x with
  | ptr r =>
    cases r with
    | none => exact Sm.fail
    | some r => cases i <;> first | exact Sm.fail | exact Sm.ite (Sm.ret _) Sm.fail
  | _ => exact Sm.fail
theorem Sm.strIdx (x i : AV) : Sm R (strIdx x i) (Ab.strIdx x i) := by
  cases x with
  | str s =>
    cases i with
    | int k n =>
      refine Sm.ite ?_ Sm.fail
      cases s[n.toNat]? <;> first | exact Sm.fail | exact Sm.ret _
    | _ => exact Sm.fail
  | _ => exact Sm.fail
theorem Sm.partA (g : Bool) (n : Nat) (cs : List AV) (o : Nat) : Sm R (partA g n cs o) (Ab.partA g n cs o) := Sm.ite (Sm.ret _) (Sm.need fun _ => Sm.ret _)
theorem Sm.fldV (g : Bool) (n o : Nat) (a : AV) : Sm R (fldV g n o a) (Ab.fldV g n o a) := by
  cases a <;> first | exact Sm.fail | exact Sm.ite (Sm.partA _ _ _ _) Sm.fail
theorem Sm.idxV (l : Nat) (g : Bool) (n : Nat) (x i : AV) : Sm R (idxV l g n x i) (Ab.idxV l g n x i) := by
  cases x with
  | agg cs => cases i <;> first | exact Sm.fail | exact Sm.ite (Sm.partA _ _ _ _) Sm.fail
  | _ => exact Sm.fail
theorem Sm.un (o : UnOp) (a : AV) : Sm R (un o a) (Ab.un o a) := Sm.need fun _ => Sm.ret _
theorem Sm.cvT (a : AV) : Sm R (cvT a) (Ab.cvT a) := by
  cases a <;> first | exact Sm.fail | exact Sm.ret _
theorem Sm.slStr (x : AV) (lo hi : Option AV) : Sm R (slStr x lo hi) (Ab.slStr x lo hi) := by
  cases x <;> first | exact Sm.fail | exact Sm.need fun _ => Sm.need fun _ => Sm.ret _
theorem Sm.slR (n e : Nat) (x : AV) (lo hi mx : Option AV) : Sm R (slR n e x lo hi mx) (Ab.slR n e x lo hi mx) := by
  cases x with
  | ptr r => cases r <;> first | exact Sm.fail | exact Sm.need fun _ => Sm.need fun _ => Sm.need fun _ => Sm.ret _
  | _ => exact Sm.fail
theorem Sm.lnS (a : AV) : Sm R (lnS a) (Ab.lnS a) := by cases a <;> first | exact Sm.fail | exact Sm.ret _
theorem Sm.lnStr (a : AV) : Sm R (lnStr a) (Ab.lnStr a) := by cases a <;> first | exact Sm.fail | exact Sm.ret _
theorem Sm.capA (a : AV) : Sm R (capA a) (Ab.capA a) := by
  cases a with
  | sl r n c => cases c <;> first | exact Sm.fail | exact Sm.ret _
  | _ => exact Sm.fail
theorem Sm.extA (i : Nat) (a : AV) : Sm R (extA i a) (Ab.extA i a) := by cases a <;> first | exact Sm.fail | exact Sm.need fun _ => Sm.ret _
theorem Sm.bldS (z : List AV) (pl : List (Nat × Nat)) (ps : List (Nat × AV)) : Sm R (bldS z pl ps) (Ab.bldS z pl ps) := Sm.need fun _ => Sm.ret _
theorem Sm.bldR (z : List AV) (n : Nat) (ps : List (Nat × AV)) : Sm R (bldR z n ps) (Ab.bldR z n ps) := Sm.need fun _ => Sm.ret _
theorem Sm.loopN {f : List AV → MS S Out} {f' : List AV → MS T Out} (h : ∀ ws, Sm R (f ws) (f' ws)) : ∀ (n : Nat) (ws : List AV), Sm R (loopN n f ws) (Ab.loopN n f' ws)
  | 0, _ => Sm.fail
  | n + 1, ws => by
    refine Sm.bnd (h ws) fun o => ?_
    cases o with
    | nrm ws => exact Sm.loopN h n ws
    | ext i ws => exact Sm.ret _
    | ret vs => exact Sm.ret _
end
end Go.Ab
