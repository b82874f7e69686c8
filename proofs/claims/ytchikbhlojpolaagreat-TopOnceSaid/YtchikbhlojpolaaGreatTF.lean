/- The tree's steps once more, laid for quick reckoning; equal to the plain ones. -/
import Derived.Test.YtchikbhlojpolaaGreatTI
namespace Go.Ab
open Go

noncomputable section
def findF (t : Tr) : Nat → Option Blk := Tr.rec (motive := fun _ => Nat → Option Blk) (fun _ => none)
  (fun x _ _ ihl ihr k => bif Nat.beq k 0 then x else bif Nat.beq (Nat.mod k 2) 1 then ihl (Nat.div k 2) else ihr (Nat.sub (Nat.div k 2) 1)) t
theorem findF_eq (t : Tr) : findF t = t.find := by
  induction t with
  | lf => rfl
  | nd x l r ihl ihr =>
    funext k
    show (bif Nat.beq k 0 then x else bif Nat.beq (Nat.mod k 2) 1 then findF l (Nat.div k 2) else findF r (Nat.sub (Nat.div k 2) 1)) = _
    rw [ihl, ihr]; rfl
def mkF {R : Type} (x : Option Blk) (d : Nat) : Nat → (Tr → R) → R := Nat.rec (motive := fun _ => Nat → (Tr → R) → R) (fun _ c => c .lf)
  (fun _ ih k c => bif Nat.beq k 0 then c (.nd x .lf .lf) else bif Nat.beq (Nat.mod k 2) 1 then ih (Nat.div k 2) (fun t => c (.nd none t .lf)) else ih (Nat.sub (Nat.div k 2) 1) (fun t => c (.nd none .lf t))) d
def putF {R : Type} (x : Option Blk) (t : Tr) : Nat → (Tr → R) → R := Tr.rec (motive := fun _ => Nat → (Tr → R) → R) (fun k c => mkF x 40 k c)
  (fun y l r ihl ihr k c => bif Nat.beq k 0 then c (.nd x l r) else bif Nat.beq (Nat.mod k 2) 1 then ihl (Nat.div k 2) (fun t => c (.nd y t r)) else ihr (Nat.sub (Nat.div k 2) 1) (fun t => c (.nd y l t))) t
theorem mkF_eq {R : Type} (x : Option Blk) : ∀ (d k : Nat) (c : Tr → R), mkF x d k c = c (Tr.put x d .lf k)
  | 0, k, c => rfl
  | d + 1, k, c => by
    show (bif Nat.beq k 0 then c (.nd x .lf .lf) else bif Nat.beq (Nat.mod k 2) 1 then mkF x d (Nat.div k 2) (fun t => c (.nd none t .lf)) else mkF x d (Nat.sub (Nat.div k 2) 1) (fun t => c (.nd none .lf t))) = _
    simp only [mkF_eq x d, beq_ite, Tr.put]
    show (if k = 0 then _ else if k % 2 = 1 then c (.nd none (Tr.put x d .lf (k / 2)) .lf) else c (.nd none .lf (Tr.put x d .lf (k / 2 - 1)))) = _
    split
    · rfl
    · split <;> rfl
theorem putF_ex (x : Option Blk) (t : Tr) : ∀ (k : Nat), ∃ t', (∀ (R : Type) (c : Tr → R), putF x t k c = c t') ∧ (k + 1 < 2 ^ 40 → t'.find = fun b => if b = k then x else t.find b) := by
  induction t with
  | lf =>
    intro k
    refine ⟨_, fun R c => mkF_eq x 40 k c, fun h => ?_⟩
    funext b
    exact Tr.find_put x 40 .lf k h b
  | nd y l r ihl ihr =>
    intro k
    by_cases h0 : k = 0
    · subst h0
      refine ⟨.nd x l r, fun R c => rfl, fun _ => ?_⟩
      funext b
      rw [Tr.find_nd, Tr.find_nd]
      by_cases hb : b = 0 <;> simp [hb]
    · by_cases h1 : k % 2 = 1
      · obtain ⟨t', h2, h3⟩ := ihl (k / 2)
        refine ⟨.nd y t' r, fun R c => ?_, fun hk => ?_⟩
        · show (bif Nat.beq k 0 then c (.nd x l r) else bif Nat.beq (Nat.mod k 2) 1 then putF x l (Nat.div k 2) (fun t => c (.nd y t r)) else putF x r (Nat.sub (Nat.div k 2) 1) (fun t => c (.nd y l t))) = _
          rw [beq_ite, if_neg h0, beq_ite, if_pos (show Nat.mod k 2 = 1 from h1)]
          exact h2 R _
        · funext b
          rw [Tr.find_nd, Tr.find_nd, h3 (by omega)]
          by_cases hb : b = 0
          · subst hb; rw [if_pos rfl, if_neg (fun e => h0 e.symm), if_pos rfl]
          · rw [if_neg hb, if_neg hb]
            by_cases hb1 : b % 2 = 1
            · rw [if_pos hb1, if_pos hb1]
              show (if b / 2 = k / 2 then x else l.find (b / 2)) = _
              by_cases e : b = k
              · subst e; simp
              · rw [if_neg e, if_neg (by omega)]
            · rw [if_neg hb1, if_neg hb1, if_neg (by intro e; subst e; exact hb1 h1)]
      · obtain ⟨t', h2, h3⟩ := ihr (k / 2 - 1)
        refine ⟨.nd y l t', fun R c => ?_, fun hk => ?_⟩
        · show (bif Nat.beq k 0 then c (.nd x l r) else bif Nat.beq (Nat.mod k 2) 1 then putF x l (Nat.div k 2) (fun t => c (.nd y t r)) else putF x r (Nat.sub (Nat.div k 2) 1) (fun t => c (.nd y l t))) = _
          rw [beq_ite, if_neg h0, beq_ite, if_neg (show ¬ Nat.mod k 2 = 1 from h1)]
          exact h2 R _
        · funext b
          rw [Tr.find_nd, Tr.find_nd, h3 (by omega)]
          by_cases hb : b = 0
          · subst hb; rw [if_pos rfl, if_neg (fun e => h0 e.symm), if_pos rfl]
          · rw [if_neg hb, if_neg hb]
            by_cases hb1 : b % 2 = 1
            · rw [if_pos hb1, if_pos hb1, if_neg (by intro e; subst e; exact h1 hb1)]
            · rw [if_neg hb1, if_neg hb1]
              show (if b / 2 - 1 = k / 2 - 1 then x else r.find (b / 2 - 1)) = _
              by_cases e : b = k
              · subst e; simp
              · rw [if_neg e, if_neg (by omega)]

def upK {R : Type} (l : List (Nat × Option Blk)) : Tr → (Tr → Option R) → Option R :=
  List.rec (motive := fun _ => Tr → (Tr → Option R) → Option R) (fun t c => c t)
    (fun p _ ih t c => Prod.rec (motive := fun _ => Option R) (fun b x => fN b fun b => bif Nat.blt b 549755813888 then putF x t b fun t => ih t c else none) p) l
theorem upK_some {R : Type} (l : List (Nat × Option Blk)) : ∀ {t : Tr} {c : Tr → Option R} {r : R}, upK l t c = some r → ∃ t', c t' = some r ∧ t'.find = upF l t.find := by
  induction l with
  | nil => intro t c r h; exact ⟨t, h, rfl⟩
  | cons p l ih =>
    intro t c r h
    obtain ⟨b, x⟩ := p
    have h' : (fN b fun b => bif Nat.blt b 549755813888 then putF x t b fun t => upK l t c else none) = some r := h
    rw [fN_eq] at h'
    by_cases hb : Nat.blt b 549755813888 = true
    · obtain ⟨t1, h1, h2⟩ := putF_ex x t b
      rw [hb, cond_true, h1] at h'
      obtain ⟨t', h3, h4⟩ := ih h'
      have hlt : b < 549755813888 := by simpa [Nat.blt_eq] using hb
      refine ⟨t', h3, ?_⟩
      rw [h4, h2 (by omega)]
      rfl
    · have : Nat.blt b 549755813888 = false := (Bool.not_eq_true _).mp hb
      rw [this] at h'; cases h'
def exF (p : Bk → Nat → Option Pl) : MS TH AV := fun T => match T with
  | ⟨nx, tr⟩ => match p (findF tr) nx with
    | none => none
    | some ⟨v, up, dn⟩ => upK up tr fun tr => fN (Nat.add nx dn) fun nx => fV v fun v => some (v, ⟨nx, tr⟩)
theorem exF_sm {p : Bk → Nat → Option Pl} (hp : Mn p) : Sm Rl (exF p) (exA p) := by
  intro T H a T' r h
  obtain ⟨nx, tr⟩ := T
  obtain ⟨r1, r2⟩ := r
  simp only at r1 r2
  simp only [exF, findF_eq] at h
  simp only [exA]
  cases hq : p tr.find nx with
  | none => simp [hq] at h
  | some q =>
    have h3 := hp _ _ _ _ r2 hq
    obtain ⟨v, up, dn⟩ := q
    simp only [hq] at h
    obtain ⟨t', h1, h2⟩ := upK_some up h
    simp only [fN_eq, fV_eq, Option.some.injEq, Prod.mk.injEq] at h1
    obtain ⟨rfl, rfl⟩ := h1
    rw [r1, h3]
    refine ⟨_, rfl, rfl, ?_⟩
    simp only [h2]
    exact upF_sub _ r2
def rdF (p : Bk → Option AV) : MS TH AV := fun T => match T with
  | ⟨nx, tr⟩ => match p (findF tr) with
    | none => none
    | some v => fV v fun v => some (v, ⟨nx, tr⟩)
theorem rdF_eq (p : Bk → Option AV) : rdF p = rdT p := by
  funext T; obtain ⟨nx, tr⟩ := T; simp only [rdF, rdT, findF_eq]
  cases p tr.find <;> rfl
/-- A reading of one cell, which has been told already. -/
def rd1 (p : Bk → Option AV) : MS TH AV := fun T => match T with
  | ⟨nx, tr⟩ => match p (findF tr) with
    | none => none
    | some v => some (v, ⟨nx, tr⟩)
theorem rd1_eq (p : Bk → Option AV) : rd1 p = rdT p := by
  funext T; obtain ⟨nx, tr⟩ := T; simp only [rd1, rdT, findF_eq, fV_eq]
  cases p tr.find <;> rfl

def nthF (l : List AV) : Nat → Option AV := List.rec (motive := fun _ => Nat → Option AV) (fun _ => none) (fun x _ ih n => Nat.rec (motive := fun _ => Option AV) (some x) (fun m _ => ih m) n) l
theorem nthF_eq (l : List AV) : ∀ n, nthF l n = nth l n := by
  induction l with
  | nil => intro n; rfl
  | cons x l ih => intro n; cases n with
    | zero => rfl
    | succ n => exact ih n
def ldQ (a : AV) (bk : Bk) : Option AV := match a with
  | .ptr (some (b, o)) => (match bk b with
    | some (.cells cs _ _ _) => nthF cs o
    | _ => none)
  | _ => none
theorem ldQ_eq (a : AV) : ldQ a = ldP a := by
  funext bk
  cases a with
  | ptr r =>
    cases r with
    | none => rfl
    | some r =>
      obtain ⟨b, o⟩ := r
      simp only [ldQ, ldP]
      cases bk b with
      | none => rfl
      | some x => cases x <;> simp [nthF_eq]
  | _ => rfl
def dropX {R : Type} (n : Nat) : List AV → (List AV → Option R) → Option R := Nat.rec (motive := fun _ => List AV → (List AV → Option R) → Option R) (fun l c => c l)
  (fun _ ih l c => List.rec (motive := fun _ => Option R) none (fun _ l _ => ih l c) l) n
theorem dropX_eq {R : Type} : ∀ (n : Nat) (l : List AV) (c : List AV → Option R), dropX n l c = if n ≤ l.length then c (l.drop n) else none
  | 0, l, c => by rw [if_pos (Nat.zero_le _)]; rfl
  | n + 1, [], c => by rw [if_neg (by simp)]; rfl
  | n + 1, x :: l, c => by
    show dropX n l c = _
    rw [dropX_eq n l]; simp
/-- So many from the front, no fewer. -/
def takeX {R : Type} (n : Nat) : List AV → (List AV → Option R) → Option R := Nat.rec (motive := fun _ => List AV → (List AV → Option R) → Option R) (fun _ c => c [])
  (fun _ ih l c => List.rec (motive := fun _ => Option R) none (fun x l _ => ih l fun m => c (x :: m)) l) n
theorem takeX_eq {R : Type} : ∀ (n : Nat) (l : List AV) (c : List AV → Option R), takeX n l c = if n ≤ l.length then c (l.take n) else none
  | 0, l, c => by rw [if_pos (Nat.zero_le _)]; rfl
  | n + 1, [], c => by rw [if_neg (by simp)]; rfl
  | n + 1, x :: l, c => by
    show takeX n l (fun m => c (x :: m)) = _
    rw [takeX_eq n l]; simp
def appK {R : Type} (l m : List AV) : (List AV → R) → R := List.rec (motive := fun _ => (List AV → R) → R) (fun c => c m) (fun x _ ih c => ih fun l => c (x :: l)) l
theorem appK_eq {R : Type} (l m : List AV) : ∀ (c : List AV → R), appK l m c = c (l ++ m) := by
  induction l with
  | nil => intro c; rfl
  | cons x l ih => intro c; exact ih fun l => c (x :: l)
/-- One cell turned; none: it is not there. -/
def setX {R : Type} (v : AV) (l : List AV) : Nat → (List AV → Option R) → Option R := List.rec (motive := fun _ => Nat → (List AV → Option R) → Option R) (fun _ _ => none)
  (fun x l ih n c => Nat.rec (motive := fun _ => Option R) (c (v :: l)) (fun m _ => ih m fun l => c (x :: l)) n) l
theorem setX_eq {R : Type} (v : AV) (l : List AV) : ∀ (n : Nat) (c : List AV → Option R), setX v l n c = if n < l.length then c (l.set n v) else none := by
  induction l with
  | nil => intro n c; rw [if_neg (by simp)]; rfl
  | cons x l ih =>
    intro n c
    cases n with
    | zero => rw [if_pos (by simp)]; rfl
    | succ n =>
      show setX v l n (fun l => c (x :: l)) = _
      rw [ih]; simp
/-- Cells turned from a place on; none: they are not all there. -/
def splX {R : Type} (vs : List AV) (l : List AV) (n : Nat) (c : List AV → Option R) : Option R :=
  Nat.rec (motive := fun _ => List AV → (List AV → Option R) → Option R)
    (fun l c => List.rec (motive := fun _ => List AV → (List AV → Option R) → Option R) (fun l c => c l) (fun v _ ih l c => List.rec (motive := fun _ => Option R) none (fun _ l _ => ih l fun l => c (v :: l)) l) vs l c)
    (fun _ ih l c => List.rec (motive := fun _ => Option R) none (fun x l _ => ih l fun l => c (x :: l)) l) n l c
def putX {R : Type} (vs : List AV) : List AV → (List AV → Option R) → Option R :=
  List.rec (motive := fun _ => List AV → (List AV → Option R) → Option R) (fun l c => c l) (fun v _ ih l c => List.rec (motive := fun _ => Option R) none (fun _ l _ => ih l fun l => c (v :: l)) l) vs
theorem putX_eq {R : Type} : ∀ (vs l : List AV) (c : List AV → Option R), putX vs l c = if vs.length ≤ l.length then c (vs ++ l.drop vs.length) else none
  | [], l, c => by rw [if_pos (by simp)]; rfl
  | v :: vs, [], c => by rw [if_neg (by simp)]; rfl
  | v :: vs, x :: l, c => by
    show putX vs l (fun l => c (v :: l)) = _
    rw [putX_eq vs l]; simp
theorem splX_eq {R : Type} (vs : List AV) : ∀ (n : Nat) (l : List AV) (c : List AV → Option R), splX vs l n c = if n + vs.length ≤ l.length then c (splice l n vs) else none
  | 0, l, c => by
    show putX vs l c = _
    rw [putX_eq]; simp [splice]
  | n + 1, [], c => by
    show none = _
    rw [if_neg (by simp)]
  | n + 1, x :: l, c => by
    show splX vs l n (fun l => c (x :: l)) = _
    rw [splX_eq vs n l]
    have : (n + 1 + vs.length ≤ (x :: l).length) = (n + vs.length ≤ l.length) := by simp; omega
    simp only [this]
    split
    · simp only [splice, List.take_succ_cons]
      rw [show n + 1 + vs.length = (n + vs.length) + 1 by omega, List.drop_succ_cons]; rfl
    · rfl
def allF (l : List AV) : Bool := List.rec (motive := fun _ => Bool) true (fun x _ ih => bif x.isCell then ih else false) l
theorem allF_eq (l : List AV) : allF l = l.all AV.isCell := by
  induction l with
  | nil => rfl
  | cons x l ih =>
    show (bif x.isCell then allF l else false) = _
    rw [ih]; simp only [List.all_cons]; cases x.isCell <;> rfl
def fLF {R : Type} (l : List AV) : (List AV → R) → R := List.rec (motive := fun _ => (List AV → R) → R) (fun c => c []) (fun x _ ih c => fV x fun x => ih fun l => c (x :: l)) l
theorem fLF_eq {R : Type} (l : List AV) : ∀ (c : List AV → R), fLF l c = c l := by
  induction l with
  | nil => intro c; rfl
  | cons x l ih =>
    intro c
    show (fV x fun x => fLF l fun l => c (x :: l)) = _
    rw [fV_eq, ih]
def lenF (l : List AV) : Nat := List.rec (motive := fun _ => Nat → Nat) (fun n => n) (fun _ _ ih n => ih (Nat.succ n)) l 0
theorem lenF_eq (l : List AV) : lenF l = l.length := by
  have : ∀ (l : List AV) (n : Nat), List.rec (motive := fun _ => Nat → Nat) (fun n => n) (fun _ _ ih n => ih (Nat.succ n)) l n = l.length + n := by
    intro l
    induction l with
    | nil => intro n; simp
    | cons x l ih => intro n; show List.rec (motive := fun _ => Nat → Nat) (fun n => n) (fun _ _ ih n => ih (Nat.succ n)) l (Nat.succ n) = _; rw [ih]; simp; omega
  exact (this l 0).trans (Nat.add_zero _)

-- the steps
def rdnQ {R : Type} (bk : Bk) (r : Ref) (n : Nat) (c : List AV → Option R) : Option R := match r with
  | (b, o) => match bk b with
    | some (.cells cs _ _ _) => dropX o cs fun cs => takeX n cs c
    | _ => none
theorem rdnQ_eq {R : Type} (bk : Bk) (r : Ref) (n : Nat) (c : List AV → Option R) : rdnQ bk r n c = (rdnP bk r n).bind c := by
  obtain ⟨b, o⟩ := r
  simp only [rdnQ, rdnP]
  cases bk b with
  | none => rfl
  | some x =>
    cases x with
    | iter s p => rfl
    | cells cs es g ow =>
      simp only [dropX_eq, takeX_eq]
      by_cases h : o + n ≤ cs.length
      · rw [if_pos h, if_pos (by omega), if_pos (by simp; omega)]; rfl
      · rw [if_neg h]
        by_cases h2 : o ≤ cs.length
        · rw [if_pos h2, if_neg (by simp; omega)]; rfl
        · rw [if_neg h2]; rfl
def ldaQ (n : Nat) (a : AV) (bk : Bk) : Option AV := match a with
  | .ptr (some r) => rdnQ bk r n fun cs => some (.agg cs)
  | _ => none
theorem ldaQ_eq (n : Nat) (a : AV) : ldaQ n a = ldaP n a := by
  funext bk
  cases a with
  | ptr r =>
    cases r with
    | none => rfl
    | some r =>
      simp only [ldaQ, ldaP, rdnQ_eq, fL_eq]
      cases rdnP bk r n <;> rfl
  | _ => rfl
def stnQ (bk : Bk) (r : Ref) (vs : List AV) (v : AV) : Option Pl := match r with
  | (b, o) => match bk b with
    | some (.cells cs es g true) => fLF vs fun vs => splX vs cs o fun cs => bif allF vs then some ⟨v, [(b, some (.cells cs es g true))], 0⟩ else none
    | _ => none
theorem stnQ_eq (bk : Bk) (r : Ref) (vs : List AV) (v : AV) : stnQ bk r vs v = stnP bk r vs v := by
  obtain ⟨b, o⟩ := r
  simp only [stnQ, stnP]
  cases bk b with
  | none => rfl
  | some x =>
    cases x with
    | iter s p => rfl
    | cells cs es g ow =>
      cases ow with
      | false => rfl
      | true =>
        simp only [fLF_eq, splX_eq, allF_eq]
        by_cases h : o + vs.length ≤ cs.length
        · rw [if_pos h]
          cases hv : vs.all AV.isCell with
          | true => rw [if_pos ⟨h, rfl⟩]; rfl
          | false => rw [if_neg (by simp)]; rfl
        · rw [if_neg h, if_neg (by simp [h])]
def st1Q (bk : Bk) (r : Ref) (x v : AV) : Option Pl := match r with
  | (b, o) => match bk b with
    | some (.cells cs es g true) => bif x.isCell then fV x fun x => setX x cs o fun cs => some ⟨v, [(b, some (.cells cs es g true))], 0⟩ else none
    | _ => none
theorem st1Q_eq (bk : Bk) (r : Ref) (x v : AV) : st1Q bk r x v = st1P bk r x v := by
  obtain ⟨b, o⟩ := r
  simp only [st1Q, st1P]
  cases bk b with
  | none => rfl
  | some y =>
    cases y with
    | iter s p => rfl
    | cells cs es g ow =>
      cases ow with
      | false => rfl
      | true =>
        simp only [fV_eq, setX_eq]
        cases hx : x.isCell with
        | true =>
          by_cases h : o < cs.length
          · rw [cond_true, if_pos h, if_pos ⟨h, rfl⟩]
          · rw [cond_true, if_neg h, if_neg (by simp [h])]
        | false => rw [cond_false, if_neg (by simp)]
def stQ (n : Nat) (a v : AV) (bk : Bk) (_ : Nat) : Option Pl := match a with
  | .ptr (some r) => (match v with
    | .agg cs => bif Nat.beq (lenF cs) n then stnQ bk r cs undefA else none
    | v => bif Nat.beq n 1 then st1Q bk r v undefA else none)
  | _ => none
theorem stQ_eq (n : Nat) (a v : AV) : stQ n a v = stP n a v := by
  funext bk nx
  cases a with
  | ptr r =>
    cases r with
    | none => rfl
    | some r =>
      cases v with
      | agg cs => simp only [stQ, stP, beq_ite, lenF_eq, stnQ_eq]
      | _ =>
        show (bif Nat.beq n 1 then st1Q bk r _ undefA else none) = if n = 1 then st1P bk r _ undefA else none
        rw [beq_ite, st1Q_eq]
  | _ => rfl
def newQ (cs : List AV) (es : Nat) (g : Bool) (nx : Nat) (mk : Nat → AV) : Option Pl := fLF cs fun cs => some ⟨mk nx, [(nx, some (.cells cs es g true))], 1⟩
theorem newQ_eq (cs : List AV) (es : Nat) (g : Bool) (nx : Nat) (mk : Nat → AV) : newQ cs es g nx mk = some (newP cs es g nx mk) := by simp only [newQ, fLF_eq]; rfl
def boxQ (v : AV) (_ : Bk) (nx : Nat) : Option Pl := bif allF v.cells then newQ v.cells 1 false nx pT else none
theorem boxQ_eq (v : AV) : boxQ v = boxP v := by
  funext bk nx
  simp only [boxQ, boxP, newQ_eq, allF_eq]
  cases v.cells.all AV.isCell <;> rfl
def bsQ (z : List AV) (sz n : Nat) (ps : List (Nat × AV)) (_ : Bk) (nx : Nat) : Option Pl :=
  match fillA (fun i => some (i * sz, sz)) (repCells z n) ps with
  | some cs => newQ cs sz false nx fun b => .sl (some (b, 0)) n (some n)
  | none => none
theorem bsQ_eq (z : List AV) (sz n : Nat) (ps : List (Nat × AV)) : bsQ z sz n ps = bsP z sz n ps := by
  funext bk nx
  simp only [bsQ, bsP, newQ_eq]
  cases fillA (fun i => some (i * sz, sz)) (repCells z n) ps <;> rfl
def mkQ (esz bytes : Nat) (zs : List AV) (l c : AV) (_ : Bk) (nx : Nat) : Option Pl := match l with
  | .int _ (.ofNat l) => (match c with
    | .int _ (.ofNat c) => bif Nat.ble l c && (Nat.ble c 4294967296 && Nat.ble bytes 4096) then newQ (repCells zs c) esz false nx fun b => .sl (some (b, 0)) l (some c) else none
    | _ => none)
  | _ => none
theorem nble (a b : Nat) : Nat.ble a b = decide (a ≤ b) := by
  cases hb : Nat.ble a b with
  | true => rw [Nat.ble_eq] at hb; simp [hb]
  | false =>
    have : ¬ a ≤ b := fun h => by rw [← Nat.ble_eq, hb] at h; cases h
    simp [this]
theorem mkQ_eq (esz bytes : Nat) (zs : List AV) (l c : AV) : mkQ esz bytes zs l c = mkP esz bytes zs l c := by
  funext bk nx
  cases l with
  | int k l =>
    cases l with
    | ofNat l =>
      cases c with
      | int j c =>
        cases c with
        | ofNat c =>
          simp only [mkQ, mkP, newQ_eq, nble, Int.ofNat_eq_natCast]
          by_cases h : l ≤ c ∧ c ≤ 4294967296 ∧ bytes ≤ 4096
          · rw [if_pos (by omega)]; simp [h]
          · rw [if_neg (by omega)]
            have : (decide (l ≤ c) && (decide (c ≤ 4294967296) && decide (bytes ≤ 4096))) = false := by
              simp only [Bool.and_eq_false_iff, decide_eq_false_iff_not]; omega
            rw [this]; rfl
        | negSucc c =>
          simp only [mkQ, mkP]
          rw [if_neg (by simp only [Int.negSucc_eq, Int.ofNat_eq_natCast]; omega)]
      | _ => rfl
    | negSucc l =>
      cases c <;> simp only [mkQ, mkP] 
      rw [if_neg (by rw [Int.negSucc_eq]; omega)]
  | _ => rfl
def newA (old new : List AV) (es nx : Nat) (v : AV) (up : List (Nat × Option Blk)) : Option Pl := appK old new fun cs => some ⟨v, up ++ [(nx, some (.cells cs es true true))], 1⟩
def appQ' (esz bytes : Nat) (x : AV) (k : Nat) (new : List AV) (bk : Bk) (nx : Nat) : Option Pl := match x with
  | .sl a len cap =>
    bif Nat.beq k 0 then some ⟨x, [], 0⟩ else
    bif Nat.ble (Nat.add len k) 4294967296 && (Nat.ble bytes 4096 && (Nat.blt 0 bytes && (Nat.blt 0 esz && (Nat.beq (lenF new) (Nat.mul k esz) && allF new)))) then
      (match a with
      | none => newQ new esz true nx fun b => .sl (some (b, 0)) (Nat.add len k) none
      | some (b, o) => (match cap with
        | some c => bif Nat.ble (Nat.add len k) c then stnQ bk (b, Nat.add o (Nat.mul len esz)) new (.sl (some (b, o)) (Nat.add len k) (some c)) else
            rdnQ bk (b, o) (Nat.mul len esz) fun old => newA old new esz nx (.sl (some (nx, 0)) (Nat.add len k) none) []
        | none => (match bk b with
          | some (.cells cs es g own) =>
            bif Nat.beq es esz && Nat.ble (Nat.add o (Nat.mul len esz)) (lenF cs) then
              bif Nat.ble (Nat.add o (Nat.mul (Nat.add len k) esz)) (lenF cs) then stnQ bk (b, Nat.add o (Nat.mul len esz)) new (.sl (some (b, o)) (Nat.add len k) none)
              else bif g && own then dropX o cs fun cs => takeX (Nat.mul len esz) cs fun old => newA old new esz nx (.sl (some (nx, 0)) (Nat.add len k) none) [(b, none)]
              else none
            else none
          | _ => none)))
    else none
  | _ => none
theorem appQ'_eq (esz bytes : Nat) (x : AV) (k : Nat) (new : List AV) : appQ' esz bytes x k new = appP' esz bytes x k new := by
  funext bk nx
  cases x with
  | sl a len cap =>
    simp only [appQ', appP', beq_ite]
    by_cases hk : k = 0
    · rw [if_pos hk, if_pos hk]
    · rw [if_neg hk, if_neg hk]
      by_cases hc : len + k ≤ 4294967296 ∧ bytes ≤ 4096 ∧ 0 < bytes ∧ 0 < esz ∧ new.length = k * esz ∧ new.all AV.isCell = true
      · have hb : (Nat.ble (Nat.add len k) 4294967296 && (Nat.ble bytes 4096 && (Nat.blt 0 bytes && (Nat.blt 0 esz && (Nat.beq (lenF new) (Nat.mul k esz) && allF new))))) = true := by
          simp only [nble, nblt, nbeq, lenF_eq, allF_eq, Bool.and_eq_true, decide_eq_true_eq]
          exact hc
        rw [hb, cond_true, if_pos hc]
        cases a with
        | none => rw [newQ_eq]; rfl
        | some r =>
          obtain ⟨b, o⟩ := r
          cases cap with
          | some c =>
            simp only [nble]
            by_cases h2 : len + k ≤ c
            · rw [if_pos h2, show decide (Nat.add len k ≤ c) = true from decide_eq_true h2, cond_true, stnQ_eq]; rfl
            · rw [if_neg h2, show decide (Nat.add len k ≤ c) = false from decide_eq_false h2, cond_false, rdnQ_eq]
              show (rdnP bk (b, o) (len * esz)).bind _ = _
              cases rdnP bk (b, o) (len * esz) with
              | none => rfl
              | some old => simp only [Option.bind, newA, appK_eq]; rfl
          | none =>
            simp only
            cases bk b with
            | none => rfl
            | some y =>
              cases y with
              | iter s p => rfl
              | cells cs es g own =>
                simp only [nble, nbeq, lenF_eq, ← Bool.decide_and]
                by_cases h1 : es = esz ∧ o + len * esz ≤ cs.length
                · rw [if_pos h1, show decide (es = esz ∧ Nat.add o (Nat.mul len esz) ≤ cs.length) = true from decide_eq_true h1, cond_true]
                  by_cases h2 : o + (len + k) * esz ≤ cs.length
                  · rw [if_pos h2, show decide (Nat.add o (Nat.mul (Nat.add len k) esz) ≤ cs.length) = true from decide_eq_true h2, cond_true, stnQ_eq]; rfl
                  · rw [if_neg h2, show decide (Nat.add o (Nat.mul (Nat.add len k) esz) ≤ cs.length) = false from decide_eq_false h2, cond_false]
                    cases g with
                    | false => rfl
                    | true =>
                      cases own with
                      | false => rfl
                      | true =>
                        simp only [Bool.and_true, cond_true, dropX_eq, takeX_eq, newA, appK_eq]
                        rw [if_pos (show o ≤ cs.length by omega), if_pos (show Nat.mul len esz ≤ (cs.drop o).length by rw [List.length_drop]; show len * esz ≤ _; omega)]
                        rfl
                · rw [if_neg h1, show decide (es = esz ∧ Nat.add o (Nat.mul len esz) ≤ cs.length) = false from decide_eq_false h1, cond_false]
      · have hb : (Nat.ble (Nat.add len k) 4294967296 && (Nat.ble bytes 4096 && (Nat.blt 0 bytes && (Nat.blt 0 esz && (Nat.beq (lenF new) (Nat.mul k esz) && allF new))))) = false := by
          refine (Bool.not_eq_true _).mp fun h => hc ?_
          simp only [nble, nblt, nbeq, lenF_eq, allF_eq, Bool.and_eq_true, decide_eq_true_eq] at h
          exact h
        rw [hb, cond_false, if_neg hc]
  | _ => rfl
def srcQ {R : Type} (esz n : Nat) (y : AV) (bk : Bk) (c : List AV → Option R) : Option R := match y with
  | .sl none _ _ => c []
  | .sl (some r) _ _ => rdnQ bk r (Nat.mul n esz) c
  | .str s => bif Nat.beq esz 1 then fLF ((byteCells s).take n) c else none
  | _ => none
theorem srcQ_eq {R : Type} (esz n : Nat) (y : AV) (bk : Bk) (c : List AV → Option R) : srcQ esz n y bk c = (srcP esz n y bk).bind c := by
  cases y with
  | sl a len cp =>
    cases a with
    | none => rfl
    | some r => simp only [srcQ, srcP, rdnQ_eq]; rfl
  | str s =>
    simp only [srcQ, srcP, fLF_eq, beq_ite]
    by_cases h : esz = 1
    · rw [if_pos h, if_pos h]; rfl
    · rw [if_neg h, if_neg h]; rfl
  | _ => rfl
def appQ (esz bytes : Nat) (x y : AV) (bk : Bk) (nx : Nat) : Option Pl := match srcLen y with
  | some k => srcQ esz k y bk fun new => appQ' esz bytes x k new bk nx
  | none => none
theorem appQ_eq (esz bytes : Nat) (x y : AV) : appQ esz bytes x y = appP esz bytes x y := by
  funext bk nx
  simp only [appQ, appP]
  cases srcLen y with
  | none => rfl
  | some k =>
    simp only [srcQ_eq, appQ'_eq, fL_eq]
    cases srcP esz k y bk <;> rfl
def appZQ (esz bytes : Nat) (zs : List AV) (x y : AV) (bk : Bk) (nx : Nat) : Option Pl := match y with
  | .int _ (.ofNat n) => bif Nat.ble n 4294967296 then fLF (repCells zs n) fun new => appQ' esz bytes x n new bk nx else none
  | _ => none
theorem appZQ_eq (esz bytes : Nat) (zs : List AV) (x y : AV) : appZQ esz bytes zs x y = appZP esz bytes zs x y := by
  funext bk nx
  cases y with
  | int k n =>
    cases n with
    | ofNat n =>
      simp only [appZQ, appZP, fLF_eq, appQ'_eq, nble, Int.ofNat_eq_natCast]
      by_cases h : n ≤ 4294967296
      · rw [if_pos (by omega), decide_eq_true h]; rfl
      · rw [if_neg (by omega), decide_eq_false h]; rfl
    | negSucc n => simp only [appZQ, appZP]; rw [if_neg (by rw [Int.negSucc_eq]; omega)]
  | _ => rfl
def cpyQ (esz : Nat) (x y : AV) (bk : Bk) (_ : Nat) : Option Pl := match x with
  | .sl a len _ => (match srcLen y with
    | some k => fN (bif Nat.ble k len then k else len) fun m => srcQ esz m y bk fun new => (match a with
        | none => some ⟨.int .i64 (.ofNat m), [], 0⟩
        | some r => bif Nat.beq m 0 then some ⟨.int .i64 (.ofNat 0), [], 0⟩ else stnQ bk r new (.int .i64 (.ofNat m)))
    | none => none)
  | _ => none
theorem cpyQ_eq (esz : Nat) (x y : AV) : cpyQ esz x y = cpyP esz x y := by
  funext bk nx
  cases x with
  | sl a len c =>
    simp only [cpyQ, cpyP]
    cases srcLen y with
    | none => rfl
    | some k =>
      simp only [fN_eq, ble_min, srcQ_eq]
      cases srcP esz (min k len) y bk with
      | none => rfl
      | some new =>
        cases a with
        | none => rfl
        | some r => simp only [Option.bind, beq_ite, stnQ_eq]; rfl
  | _ => rfl
def boundF (dflt most : Nat) (x : Option AV) : Option Nat := match x with
  | none => some dflt
  | some (.int _ (.ofNat n)) => bif Nat.ble n most then some n else none
  | some _ => none
theorem boundF_eq (dflt most : Nat) (x : Option AV) : boundF dflt most x = boundA dflt most x := by
  cases x with
  | none => rfl
  | some v =>
    cases v with
    | int k n =>
      cases n with
      | ofNat n =>
        simp only [boundF, boundA, nble, Int.ofNat_eq_natCast]
        by_cases h : n ≤ most
        · rw [if_pos (by omega), decide_eq_true h]; rfl
        · rw [if_neg (by omega), decide_eq_false h]; rfl
      | negSucc n => simp only [boundF, boundA]; rw [if_neg (by rw [Int.negSucc_eq]; omega)]
    | _ => rfl
def slQ (esz : Nat) (x : AV) (lo hi mx : Option AV) (bk : Bk) : Option AV :=
  match x with
  | .sl a len (some c) => (match boundF c c mx with
    | some m => (match boundF len m hi with
      | some h => (match boundF 0 h lo with
        | some l => some (.sl (bif Nat.beq m l then a else (match a with | none => none | some (b, o) => some (b, Nat.add o (Nat.mul l esz)))) (Nat.sub h l) (some (Nat.sub m l)))
        | none => none)
      | none => none)
    | none => none)
  | .sl (some (b, o)) len none => (match bk b with
    | some (.cells cs es _ _) =>
      bif Nat.beq es esz && (Nat.blt 0 esz && Nat.ble (Nat.add (Nat.mul len esz) o) (lenF cs)) then
        (match mx with
        | none => (match boundF len (Nat.div (Nat.sub (lenF cs) o) esz) hi with
          | some h => (match boundF 0 h lo with
            | some l => some (.sl (some (b, Nat.add o (Nat.mul l esz))) (Nat.sub h l) none)
            | none => none)
          | none => none)
        | some mx => (match boundF (Nat.div (Nat.sub (lenF cs) o) esz) (Nat.div (Nat.sub (lenF cs) o) esz) (some mx) with
          | some m => (match boundF len m hi with
            | some h => (match boundF 0 h lo with
              | some l => some (.sl (some (bif Nat.beq m l then (b, o) else (b, Nat.add o (Nat.mul l esz)))) (Nat.sub h l) (some (Nat.sub m l)))
              | none => none)
            | none => none)
          | none => none))
      else none
    | _ => none)
  | _ => none
theorem slQ_eq (esz : Nat) (x : AV) (lo hi mx : Option AV) : slQ esz x lo hi mx = slP esz x lo hi mx := by
  funext bk
  cases x with
  | sl a len cap =>
    cases cap with
    | some c =>
      simp only [slQ, slP, boundF_eq, beq_ite]
      cases boundA c c mx with
      | none => rfl
      | some m =>
        simp only
        cases boundA len m hi with
        | none => rfl
        | some h =>
          simp only
          cases boundA 0 h lo with
          | none => rfl
          | some l => cases a <;> rfl
    | none =>
      cases a with
      | none => rfl
      | some r =>
        obtain ⟨b, o⟩ := r
        simp only [slQ, slP]
        cases bk b with
        | none => rfl
        | some y =>
          cases y with
          | iter s p => rfl
          | cells cs es g ow =>
            simp only [nbeq, nblt, nble, lenF_eq, boundF_eq, ← Bool.decide_and]
            by_cases h1 : es = esz ∧ 0 < esz ∧ len * esz + o ≤ cs.length
            · rw [if_pos h1, show decide (es = esz ∧ 0 < esz ∧ Nat.add (Nat.mul len esz) o ≤ cs.length) = true from decide_eq_true h1, cond_true]
              cases mx with
              | none => rfl
              | some mx =>
                simp only
                show (match boundA ((cs.length - o) / esz) ((cs.length - o) / esz) (some mx) with | some m => _ | none => _) = _
                cases boundA ((cs.length - o) / esz) ((cs.length - o) / esz) (some mx) with
                | none => rfl
                | some m =>
                  simp only
                  cases boundA len m hi with
                  | none => rfl
                  | some h =>
                    simp only
                    cases boundA 0 h lo with
                    | none => rfl
                    | some l =>
                      simp only
                      by_cases e : m = l
                      · rw [decide_eq_true e, if_pos e]; rfl
                      · rw [decide_eq_false e, if_neg e]; rfl
            · rw [if_neg h1, show decide (es = esz ∧ 0 < esz ∧ Nat.add (Nat.mul len esz) o ≤ cs.length) = false from decide_eq_false h1, cond_false]
  | _ => rfl
def cbQ (x : AV) (bk : Bk) : Option AV := match x with
  | .int _ n => some (.str (Utf8.encode n))
  | .str s => some (.str s)
  | .sl none _ _ => some (.str .empty)
  | .sl (some r) len _ => rdnQ bk r len fun cs => (match bytesOf cs with
      | some l => some (.str ⟨⟨l⟩⟩)
      | none => none)
  | _ => none
theorem cbQ_eq (x : AV) : cbQ x = cbP x := by
  funext bk
  cases x with
  | sl a n c =>
    cases a with
    | none => rfl
    | some r =>
      simp only [cbQ, cbP, rdnQ_eq]
      cases rdnP bk r n <;> rfl
  | _ => rfl
def sbQ (x : AV) (_ : Bk) (nx : Nat) : Option Pl := match x with
  | .str s => if s.size ≤ 4294967296 then newQ (byteCells s) 1 true nx fun b => .sl (some (b, 0)) s.size none else none
  | _ => none
theorem sbQ_eq (x : AV) : sbQ x = sbP x := by
  funext bk nx; cases x <;> first | rfl | (simp only [sbQ, sbP, newQ_eq])
def srQ (x : AV) (_ : Bk) (nx : Nat) : Option Pl := match x with
  | .str s => if s.size ≤ 4294967296 then newQ (runeCells s s.size 0) 1 true nx fun b => .sl (some (b, 0)) (runeCells s s.size 0).length none else none
  | _ => none
theorem srQ_eq (x : AV) : srQ x = srP x := by
  funext bk nx; cases x <;> first | rfl | (simp only [srQ, srP, newQ_eq])
def mrgF (n0 : Nat) (ids : List Nat) (G : Nat → Option Blk) : MS TH Unit := fun T => match T with
  | ⟨nx, tr⟩ => upK (mrgUp n0 G ids) tr fun tr => some ((), ⟨nx, tr⟩)

/-- The machine over the tree, laid for quick reckoning. -/
def FHp : Hp TH where
  ld a := rd1 (ldQ a)
  lda n a := rd1 (ldaQ n a)
  st n a v := exF (stQ n a v)
  alP cs := exF (alPP cs)
  boxA v := exF (boxQ v)
  bsA z sz n ps := exF (bsQ z sz n ps)
  mkS e b z l c := exF (mkQ e b z l c)
  slS e x lo hi mx := rdF (slQ e x lo hi mx)
  app e b x y := exF (appQ e b x y)
  appZ e b z x y := exF (appZQ e b z x y)
  cpy e x y := exF (cpyQ e x y)
  clr z x := exF (clrP z x)
  cvSB x := exF (sbQ x)
  cvSR x := exF (srQ x)
  cvB x := rd1 (cbQ x)
  cvR x := rd1 (crP x)
  rngS x := exF (rnP x)
  nextS x := exF (nxP x)
  bin op x y := vT (binF op x y)
  eqX tb tp ts tf ti op a b := vT (eqXP tb tp ts tf ti op a b)
  idxS e x i := vT (idxSP e x i)
  idxR l e x i := vT (idxRP l e x i)
  cvI k x := vT (cvIP k x)
  ckg := THp.ckg
  fl := THp.fl
  ro := THp.ro
  hv := THp.hv
  mrg := mrgF
theorem FHr : HpR Rl FHp AHp where
  ld a := by show Sm _ (rd1 _) (ld a); rw [ld_eq, ldQ_eq, rd1_eq]; exact rd_sm (ldP_mn _)
  lda n a := by show Sm _ (rd1 _) (lda n a); rw [lda_eq, ldaQ_eq, rd1_eq]; exact rd_sm (ldaP_mn _ _)
  st n a v := by show Sm _ (exF _) (st n a v); rw [st_eq, stQ_eq]; exact exF_sm (stP_mn _ _ _)
  alP cs := by show Sm Rl (exF (alPP cs)) (alP cs); rw [alP_eq]; exact exF_sm (still_mn fun _ _ _ => rfl)
  boxA v := by show Sm _ (exF _) (boxA v); rw [box_eq, boxQ_eq]; exact exF_sm (still_mn fun _ _ _ => rfl)
  bsA z sz n ps := by show Sm _ (exF _) (bsA z sz n ps); rw [bs_eq, bsQ_eq]; exact exF_sm (still_mn fun _ _ _ => rfl)
  mkS e b z l c := by show Sm _ (exF _) (mkS e b z l c); rw [mk_eq, mkQ_eq]; exact exF_sm (still_mn fun _ _ _ => rfl)
  slS e x lo hi mx := by show Sm _ (rdF _) (slS e x lo hi mx); rw [sl_eq, slQ_eq, rdF_eq]; exact rd_sm (slP_mn _ _ _ _ _)
  app e b x y := by show Sm _ (exF _) (app e b x y); rw [app_eq, appQ_eq]; exact exF_sm (appP_mn _ _ _ _)
  appZ e b z x y := by show Sm _ (exF _) (appZ e b z x y); rw [appZ_eq, appZQ_eq]; exact exF_sm (appZP_mn _ _ _ _ _)
  cpy e x y := by show Sm _ (exF _) (cpy e x y); rw [cpy_eq, cpyQ_eq]; exact exF_sm (cpyP_mn _ _ _)
  clr z x := by show Sm _ (exF _) (clr z x); rw [clr_eq]; exact exF_sm (clrP_mn _ _)
  cvSB x := by show Sm _ (exF _) (cvSB x); rw [sb_eq, sbQ_eq]; exact exF_sm (still_mn fun _ _ _ => rfl)
  cvSR x := by show Sm _ (exF _) (cvSR x); rw [sr_eq, srQ_eq]; exact exF_sm (still_mn fun _ _ _ => rfl)
  cvB x := by show Sm _ (rd1 _) (cvB x); rw [cb_eq, cbQ_eq, rd1_eq]; exact rd_sm (cbP_mn _)
  cvR x := by show Sm _ (rd1 _) (cvR x); rw [cr_eq, rd1_eq]; exact rd_sm (crP_mn _)
  rngS x := by show Sm _ (exF _) (rngS x); rw [rn_eq]; exact exF_sm (still_mn fun _ _ _ => rfl)
  nextS x := by show Sm _ (exF _) (nextS x); rw [nx_eq]; exact exF_sm (nxP_mn _)
  bin := THr.bin
  eqX := THr.eqX
  idxS := THr.idxS
  idxR := THr.idxR
  cvI := THr.cvI
  ckg := THr.ckg
  fl := THr.fl
  ro := THr.ro
  hv := THr.hv
  mrg n l G := by
    intro T H a T' rl e
    obtain ⟨nx, tr⟩ := T
    obtain ⟨r1, r2⟩ := rl
    simp only [FHp, mrgF] at e
    obtain ⟨t', h1, h2⟩ := upK_some _ e
    simp only [Option.some.injEq, Prod.mk.injEq] at h1
    obtain ⟨_, rfl⟩ := h1
    refine ⟨_, rfl, r1, ?_⟩
    simp only [h2]
    have := upF_sub (mrgUp n G l) r2
    rw [mrgUp_eq n G l H.bk] at this
    exact this
  ldS a := by show St (rd1 _); rw [rd1_eq]; exact rd_st _
  ldaS n a := by show St (rd1 _); rw [rd1_eq]; exact rd_st _
  slSS a b c d e := by show St (rdF _); rw [rdF_eq]; exact rd_st _
  cvBS a := by show St (rd1 _); rw [rd1_eq]; exact rd_st _
  cvRS a := by show St (rd1 _); rw [rd1_eq]; exact rd_st _
  roS m h := h
  ldS' := THr.ldS'
  ldaS' := THr.ldaS'
  slSS' := THr.slSS'
  cvBS' := THr.cvBS'
  cvRS' := THr.cvRS'
  roS' := THr.roS'
/-- Rounds of a loop, so many at most. -/
def loopT (m : Nat) (f : List AV → MS TH Out) : List AV → MS TH Out :=
  Nat.rec (motive := fun _ => List AV → MS TH Out) (fun _ => fail) (fun _ ih ws => bnd (f ws) fun o => Out.rec (motive := fun _ => MS TH Out) (fun ws => ih ws) (fun i ws => ret (.ext i ws)) (fun vs => ret (.ret vs)) o) m
theorem loopT_eq (m : Nat) (f : List AV → MS TH Out) : loopT m f = loopN m f := by
  induction m with
  | zero => funext ws; rfl
  | succ m ih =>
    funext ws
    show bnd (f ws) (fun o => Out.rec (motive := fun _ => MS TH Out) (fun ws => loopT m f ws) (fun i ws => ret (.ext i ws)) (fun vs => ret (.ret vs)) o) = _
    rw [ih]
    show _ = bnd (f ws) _
    congr 1
    funext o
    cases o <;> rfl
end
end Go.Ab
