/- The machine over the tree: whole numbers reckoned quickly; it is followed by the machine of the proofs. -/
import Derived.Test.YtchikbhlojpolaaGreatTH
namespace Go.Ab
open Go

def kbeq : IntKind → IntKind → Bool
  | .i8, .i8 => true
  | .i16, .i16 => true
  | .i32, .i32 => true
  | .i64, .i64 => true
  | .u8, .u8 => true
  | .u16, .u16 => true
  | .u32, .u32 => true
  | .u64, .u64 => true
  | _, _ => false
theorem kbeq_eq (a b : IntKind) : kbeq a b = decide (a = b) := by cases a <;> cases b <;> rfl
def wrapU (M : Nat) (n : Int) : Nat := match n with
  | .ofNat m => Nat.mod m M
  | .negSucc m => Nat.sub (Nat.sub M 1) (Nat.mod m M)
theorem wrapU_eq (M : Nat) (hM : 0 < M) (n : Int) : (wrapU M n : Int) = n % (M : Int) := by
  cases n with
  | ofNat m => show ((m % M : Nat) : Int) = _; simp
  | negSucc m =>
    show ((M - 1 - m % M : Nat) : Int) = _
    have := Nat.mod_lt m hM
    rw [Int.negSucc_emod m (by omega)]
    omega
def sgn (M r : Nat) : Int := bif Nat.blt (Nat.mul r 2) M then .ofNat r else .negSucc (Nat.sub (Nat.sub M 1) r)
theorem sgn_eq (M h r : Nat) (hM : M = 2 * h) (hr : r < M) : sgn M r = if (r : Int) ≥ (h : Int) then (r : Int) - (M : Int) else (r : Int) := by
  unfold sgn
  by_cases c : r < h
  · have : Nat.blt (Nat.mul r 2) M = true := by rw [Nat.blt_eq]; show r * 2 < M; omega
    simp only [this, cond_true]
    rw [if_neg (by omega)]; rfl
  · have : Nat.blt (Nat.mul r 2) M = false := by
      cases hb : Nat.blt (Nat.mul r 2) M with
      | false => rfl
      | true => rw [Nat.blt_eq] at hb; have : r * 2 < M := hb; omega
    simp only [this, cond_false]
    rw [if_pos (by omega), Int.negSucc_eq]
    show -(((M - 1 - r : Nat) : Int) + 1) = _
    omega
def modN : IntKind → Nat
  | .i8 | .u8 => 256
  | .i16 | .u16 => 65536
  | .i32 | .u32 => 4294967296
  | .i64 | .u64 => 18446744073709551616
def wrapF (k : IntKind) (n : Int) : Int := match k with
  | .i8 => sgn 256 (wrapU 256 n)
  | .i16 => sgn 65536 (wrapU 65536 n)
  | .i32 => sgn 4294967296 (wrapU 4294967296 n)
  | .i64 => sgn 18446744073709551616 (wrapU 18446744073709551616 n)
  | .u8 => .ofNat (wrapU 256 n)
  | .u16 => .ofNat (wrapU 65536 n)
  | .u32 => .ofNat (wrapU 4294967296 n)
  | .u64 => .ofNat (wrapU 18446744073709551616 n)
theorem modN_eq (k : IntKind) : ((modN k : Nat) : Int) = 2 ^ k.bits := by cases k <;> decide
theorem modN_pos (k : IntKind) : 0 < modN k := by cases k <;> decide
theorem modN_half (k : IntKind) : ∃ h : Nat, modN k = 2 * h ∧ (h : Int) = 2 ^ (k.bits - 1) := by
  cases k
  all_goals first
    | exact ⟨128, by decide, by decide⟩
    | exact ⟨32768, by decide, by decide⟩
    | exact ⟨2147483648, by decide, by decide⟩
    | exact ⟨9223372036854775808, by decide, by decide⟩
theorem wrapU_lt (k : IntKind) (n : Int) : wrapU (modN k) n < modN k := by
  have h := wrapU_eq (modN k) (modN_pos k) n
  have := Int.emod_lt_of_pos n (b := (modN k : Int)) (by have := modN_pos k; omega)
  omega
theorem wrapF_eq (k : IntKind) (n : Int) : wrapF k n = k.wrap n := by
  obtain ⟨h, h1, h2⟩ := modN_half k
  have hu := wrapU_eq (modN k) (modN_pos k) n
  have hs := sgn_eq (modN k) h (wrapU (modN k) n) h1 (wrapU_lt k n)
  rw [hu, h2, modN_eq] at hs
  rw [modN_eq] at hu
  unfold IntKind.wrap
  cases k <;> first
    | (simp only [IntKind.signed, Bool.true_and, decide_eq_true_eq]; exact hs)
    | (simp only [IntKind.signed, Bool.false_and, Bool.false_eq_true, if_false]; exact hu)
def ieq : Int → Int → Bool
  | .ofNat a, .ofNat b => Nat.beq a b
  | .negSucc a, .negSucc b => Nat.beq a b
  | _, _ => false
theorem nbeq (a b : Nat) : Nat.beq a b = decide (a = b) := by
  by_cases h : a = b
  · subst h; simp [Nat.beq_refl]
  · cases hb : Nat.beq a b with
    | false => simp [h]
    | true => exact absurd (Nat.eq_of_beq_eq_true hb) h
theorem nblt (a b : Nat) : Nat.blt a b = decide (a < b) := by
  cases hb : Nat.blt a b with
  | true => rw [Nat.blt_eq] at hb; simp [hb]
  | false =>
    have : ¬ a < b := fun h => by rw [← Nat.blt_eq, hb] at h; cases h
    simp [this]
theorem ieq_eq (x y : Int) : ieq x y = decide (x = y) := by
  cases x <;> cases y <;> simp [ieq, nbeq]
  all_goals (try omega)
def ilt : Int → Int → Bool
  | .ofNat a, .ofNat b => Nat.blt a b
  | .negSucc a, .negSucc b => Nat.blt b a
  | .negSucc _, .ofNat _ => true
  | .ofNat _, .negSucc _ => false
theorem ilt_eq (x y : Int) : ilt x y = decide (x < y) := by
  cases x <;> cases y <;> simp only [ilt, nblt]
  · congr 1; simp
  · symm; simp only [decide_eq_false_iff_not]; rw [Int.negSucc_eq]; simp only [Int.ofNat_eq_natCast]; omega
  · symm; simp only [decide_eq_true_eq]; rw [Int.negSucc_eq]; simp only [Int.ofNat_eq_natCast]; omega
  · congr 1; simp only [Int.negSucc_eq, eq_iff_iff]; omega
def intF (op : BinOp) (k : IntKind) (x y : Int) : Option AV :=
  match op with
  | .add => some (.int k (wrapF k (Int.add x y)))
  | .sub => some (.int k (wrapF k (Int.sub x y)))
  | .mul => some (.int k (wrapF k (Int.mul x y)))
  | .quo => bif ieq y 0 then none else some (.int k (wrapF k (Int.tdiv x y)))
  | .rem => bif ieq y 0 then none else some (.int k (Int.tmod x y))
  | .eql => some (.bool (ieq x y))
  | .neq => some (.bool (not (ieq x y)))
  | .lss => some (.bool (ilt x y))
  | .leq => some (.bool (not (ilt y x)))
  | .gtr => some (.bool (ilt y x))
  | .geq => some (.bool (not (ilt x y)))
  | .and => some (.int k (wrapF k (.ofNat (Nat.land (wrapU (modN k) x) (wrapU (modN k) y)))))
  | .or => some (.int k (wrapF k (.ofNat (Nat.lor (wrapU (modN k) x) (wrapU (modN k) y)))))
  | .xor => some (.int k (wrapF k (.ofNat (Nat.xor (wrapU (modN k) x) (wrapU (modN k) y)))))
  | op => intA op k x y
theorem ofInt_toNat (k : IntKind) (x : Int) : (BitVec.ofInt k.bits x).toNat = wrapU (modN k) x := by
  rw [BitVec.toNat_ofInt]
  have h := wrapU_eq (modN k) (modN_pos k) x
  have h2 : ((2 ^ k.bits : Nat) : Int) = (modN k : Int) := by rw [modN_eq]; simp
  rw [h2, ← h]; simp
theorem intF_eq (op : BinOp) (k : IntKind) (x y : Int) : intF op k x y = intA op k x y := by
  cases op <;> simp only [intF, intA, wrapF_eq, ieq_eq, ilt_eq] <;> try rfl
  case quo => by_cases h : y = 0 <;> simp [h]
  case rem => by_cases h : y = 0 <;> simp [h]
  case leq => congr 2; by_cases h : y < x <;> simp [h] <;> omega
  case geq => congr 2; by_cases h : x < y <;> simp [h] <;> omega
  case and => simp only [bitsA, BitVec.toNat_and, ofInt_toNat]; rfl
  case or => simp only [bitsA, BitVec.toNat_or, ofInt_toNat]; rfl
  case xor => simp only [bitsA, BitVec.toNat_xor, ofInt_toNat]; rfl
def shF (op : BinOp) (k : IntKind) (x y : Int) : Option AV :=
  match y with
  | .negSucc _ => none
  | .ofNat s => match op with
    | .shl => some (.int k (wrapF k (Int.mul x (.ofNat (Nat.pow 2 (bif Nat.ble s k.bits then s else k.bits))))))
    | .shr => some (.int k (Int.fdiv x (.ofNat (Nat.pow 2 (bif Nat.ble s k.bits then s else k.bits)))))
    | _ => none
theorem ble_min (s b : Nat) : (bif Nat.ble s b then s else b) = min s b := by
  by_cases h : s ≤ b
  · have : Nat.ble s b = true := by rw [Nat.ble_eq]; exact h
    simp [this, Nat.min_eq_left h]
  · have : Nat.ble s b = false := by
      cases hb : Nat.ble s b with
      | false => rfl
      | true => rw [Nat.ble_eq] at hb; exact absurd hb h
    simp only [this, cond_false]; omega
theorem pow2 (n : Nat) : (Int.ofNat (Nat.pow 2 n)) = (2 : Int) ^ n := by
  show ((2 ^ n : Nat) : Int) = _; simp
theorem shF_eq (op : BinOp) (k : IntKind) (x y : Int) : shF op k x y = shiftA op k x y := by
  cases y with
  | negSucc m => simp only [shF, shiftA]; rw [if_pos (by rw [Int.negSucc_eq]; omega)]
  | ofNat s =>
    simp only [shF, shiftA, wrapF_eq, ble_min, pow2]
    rw [if_neg (by simp only [Int.ofNat_eq_natCast]; omega)]
    cases op <;> rfl
def binF (op : BinOp) (x y : AV) : Option AV := match x with
  | .int k a => (match y with
    | .int j b => (match op with
      | .shl => shF .shl k a b
      | .shr => shF .shr k a b
      | op => bif kbeq k j then intF op k a b else none)
    | y => binA op (.int k a) y)
  | x => binA op x y
theorem binF_eq (op : BinOp) (x y : AV) : binF op x y = binA op x y := by
  cases x <;> try rfl
  cases y <;> try rfl
  rename_i k a j b
  simp only [binF]
  cases op <;> simp only [shF_eq, binA] <;> try rfl
  all_goals
    rw [kbeq_eq]
    by_cases h : k = j
    · simp only [h, decide_true, cond_true, if_true, intF_eq]
    · simp only [h, decide_false, cond_false, if_false]

-- values compared
def refEq : Option Ref → Option Ref → Bool
  | none, none => true
  | some (a, b), some (c, d) => Nat.beq a c && Nat.beq b d
  | _, _ => false
theorem refEq_of {a b : Option Ref} (h : refEq a b = true) : a = b := by
  cases a with
  | none => cases b with
    | none => rfl
    | some b => cases h
  | some a => cases b with
    | none => cases h
    | some b =>
      simp only [refEq, nbeq, Bool.and_eq_true, decide_eq_true_eq] at h
      obtain ⟨h1, h2⟩ := h
      cases a; cases b; simp at h1 h2; simp [h1, h2]
def onEq : Option Nat → Option Nat → Bool
  | none, none => true
  | some a, some c => Nat.beq a c
  | _, _ => false
theorem onEq_of {a b : Option Nat} (h : onEq a b = true) : a = b := by
  cases a <;> cases b <;> simp [onEq, nbeq] at h ⊢
  exact h
def cEq : AV → AV → Bool
  | .bool true, .bool true => true
  | .bool false, .bool false => true
  | .int k a, .int j b => kbeq k j && ieq a b
  | .str a, .str b => decide (a.data.toList.map UInt8.toNat = b.data.toList.map UInt8.toNat)
  | .ptr a, .ptr b => refEq a b
  | .sl a n c, .sl b m d => refEq a b && (Nat.beq n m && onEq c d)
  | .nilfn, .nilfn => true
  | .nilifc, .nilifc => true
  | _, _ => false
theorem cEq_of {a b : AV} (h : cEq a b = true) : a = b := by
  unfold cEq at h
  split at h
  · rfl
  · rfl
  · simp only [kbeq_eq, ieq_eq, Bool.and_eq_true, decide_eq_true_eq] at h; rw [h.1, h.2]
  · rename_i a b
    simp only [decide_eq_true_eq] at h
    have : a.data.toList = b.data.toList := by
      have inj : ∀ l l' : List UInt8, l.map UInt8.toNat = l'.map UInt8.toNat → l = l' := by
        intro l
        induction l with
        | nil => intro l' h; cases l' with
          | nil => rfl
          | cons _ _ => simp at h
        | cons x l ih => intro l' h; cases l' with
          | nil => simp at h
          | cons y l' => simp only [List.map_cons, List.cons.injEq] at h; rw [UInt8.toNat_inj.1 h.1, ih l' h.2]
      exact inj _ _ h
    cases a; cases b; simp only at this
    congr 1; congr 1
    exact Array.toList_inj.1 this
  · rw [refEq_of h]
  · simp only [nbeq, Bool.and_eq_true, decide_eq_true_eq] at h
    rw [refEq_of h.1, h.2.1, onEq_of h.2.2]
  · rfl
  · rfl
  · cases h
def csEq : List AV → List AV → Bool
  | [], [] => true
  | x :: l, y :: m => cEq x y && csEq l m
  | _, _ => false
theorem csEq_of : ∀ {a b : List AV}, csEq a b = true → a = b
  | [], [], _ => rfl
  | x :: l, y :: m, h => by
    simp only [csEq, Bool.and_eq_true] at h
    rw [cEq_of h.1, csEq_of h.2]
  | [], _ :: _, h => by cases h
  | _ :: _, [], h => by cases h
def avEq (a b : AV) : Bool := match a with
  | .agg cs => (match b with
    | .agg ds => csEq cs ds
    | _ => false)
  | .tup [] => (match b with
    | .tup [] => true
    | _ => false)
  | a => cEq a b
theorem avEq_of {a b : AV} (h : avEq a b = true) : a = b := by
  unfold avEq at h
  split at h
  · split at h
    · rw [csEq_of h]
    · cases h
  · split at h
    · rfl
    · cases h
  · exact cEq_of h

def vT (v : Option AV) : MS TH AV := fun T => match v with
  | none => none
  | some v => fV v fun v => some (v, T)
theorem vT_eq (v : Option AV) : vT v = need v ret := by
  funext T; cases v <;> simp [vT, need, fail, ret, fV_eq]
def idxSP (e : Nat) (x i : AV) : Option AV := match x with
  | .sl (some (b, o)) len _ => (match i with
    | .int _ n => (match n with
      | .ofNat n => bif Nat.blt n len then some (.ptr (some (b, Nat.add o (Nat.mul n e)))) else none
      | .negSucc _ => none)
    | _ => none)
  | _ => none
theorem inRange_ofNat (n len : Nat) : inRange (Int.ofNat n) len = Nat.blt n len := by
  rw [nblt]; unfold inRange
  simp only [Int.ofNat_eq_natCast]
  by_cases h : n < len
  · simp [h]
  · simp [h]
theorem inRange_neg (n len : Nat) : inRange (Int.negSucc n) len = false := by
  unfold inRange
  have : ¬ (0 ≤ Int.negSucc n) := by rw [Int.negSucc_eq]; omega
  simp only [this, decide_false, Bool.false_and]
theorem idxSP_eq {S : Type} (e : Nat) (x i : AV) : (need (idxSP e x i) ret : MS S AV) = idxS e x i := by
  cases x with
  | sl r len c =>
    cases r with
    | none => rfl
    | some r =>
      obtain ⟨b, o⟩ := r
      cases i with
      | int k n =>
        cases n with
        | ofNat n =>
          simp only [idxSP, idxS, inRange_ofNat]
          cases Nat.blt n len <;> rfl
        | negSucc n => simp only [idxSP, idxS, inRange_neg]; rfl
      | _ => rfl
  | _ => rfl
def idxRP (len e : Nat) (x i : AV) : Option AV := match x with
  | .ptr (some (b, o)) => (match i with
    | .int _ n => (match n with
      | .ofNat n => bif Nat.blt n len then some (.ptr (some (b, Nat.add o (Nat.mul n e)))) else none
      | .negSucc _ => none)
    | _ => none)
  | _ => none
theorem idxRP_eq {S : Type} (len e : Nat) (x i : AV) : (need (idxRP len e x i) ret : MS S AV) = idxR len e x i := by
  cases x with
  | ptr r =>
    cases r with
    | none => rfl
    | some r =>
      obtain ⟨b, o⟩ := r
      cases i with
      | int k n =>
        cases n with
        | ofNat n =>
          simp only [idxRP, idxR, inRange_ofNat]
          cases Nat.blt n len <;> rfl
        | negSucc n => simp only [idxRP, idxR, inRange_neg]; rfl
      | _ => rfl
  | _ => rfl
def cvIP (k : IntKind) (x : AV) : Option AV := match x with
  | .int _ n => some (.int k (wrapF k n))
  | _ => none
theorem cvIP_eq {S : Type} (k : IntKind) (x : AV) : (need (cvIP k x) ret : MS S AV) = cvI k x := by
  cases x <;> first | rfl | (simp only [cvIP, cvI, wrapF_eq]; rfl)
def eqXP (tb tp ts tf ti : Bool) (op : BinOp) (a b : AV) : Option AV := bif eqXt tb tp ts tf ti a then binF op a b else none
def cksT : List (Option (MS TH AV × AV)) → MS TH Unit
  | [] => ret ()
  | none :: l => cksT l
  | some (m, v) :: l => fun T => match m T with
    | some (u, _) => bif avEq u v then cksT l T else none
    | none => none
def mrgUp (n0 : Nat) (G : Nat → Option Blk) : List Nat → List (Nat × Option Blk)
  | [] => []
  | i :: l => match G (n0 + i) with
    | some x => (n0 + i, some x) :: mrgUp n0 G l
    | none => mrgUp n0 G l
def mrgT (n0 : Nat) (ids : List Nat) (G : Nat → Option Blk) : MS TH Unit := fun T => match T with
  | ⟨nx, tr⟩ => upT (mrgUp n0 G ids) tr fun tr => some ((), ⟨nx, tr⟩)
theorem mrgUp_eq (n0 : Nat) (G : Nat → Option Blk) : ∀ (ids : List Nat) (f : Bk), upF (mrgUp n0 G ids) f = fun b => if ids.any (fun i => b == n0 + i) then (match G b with | some x => some x | none => f b) else f b
  | [], f => by funext b; simp [mrgUp, upF]
  | i :: l, f => by
    funext b
    simp only [mrgUp]
    by_cases hb : b = n0 + i
    · subst hb
      cases hg : G (n0 + i) with
      | none => simp only [mrgUp_eq n0 G l]; split <;> simp [hg]
      | some x => simp only [upF, mrgUp_eq n0 G l]; simp [hg]
    · cases hg : G (n0 + i) with
      | none => simp only [mrgUp_eq n0 G l]; simp [hb]
      | some x => simp only [upF, mrgUp_eq n0 G l]; simp [hb]

/-- The machine over the tree. -/
def THp : Hp TH where
  ld a := rdT (ldP a)
  lda n a := rdT (ldaP n a)
  st n a v := exT (stP n a v)
  alP cs := exT (alPP cs)
  boxA v := exT (boxP v)
  bsA z sz n ps := exT (bsP z sz n ps)
  mkS e b z l c := exT (mkP e b z l c)
  slS e x lo hi mx := rdT (slP e x lo hi mx)
  app e b x y := exT (appP e b x y)
  appZ e b z x y := exT (appZP e b z x y)
  cpy e x y := exT (cpyP e x y)
  clr z x := exT (clrP z x)
  cvSB x := exT (sbP x)
  cvSR x := exT (srP x)
  cvB x := rdT (cbP x)
  cvR x := rdT (crP x)
  rngS x := exT (rnP x)
  nextS x := exT (nxP x)
  bin op x y := vT (binF op x y)
  eqX tb tp ts tf ti op a b := vT (eqXP tb tp ts tf ti op a b)
  idxS e x i := vT (idxSP e x i)
  idxR l e x i := vT (idxRP l e x i)
  cvI k x := vT (cvIP k x)
  ckg g m v r := match g with
    | some true => fun T => (match m T with
      | some (u, _) => bif avEq u v then r T else none
      | none => none)
    | _ => r
  fl n f := fun T => match T with
    | ⟨nx, tr⟩ => fN (Nat.add nx n) fun ny => f nx ⟨ny, tr⟩
  ro m := m
  hv m l := bnd m fun v => bnd (cksT l) fun _ => ret v
  mrg := mrgT

theorem cks_sm : ∀ {l : List (Option (MS TH AV × AV))} {l' : List (Option (M AV × AV))}, LR Rl l l' → Sm Rl (cksT l) (cks l')
  | _, _, .nil => Sm.ret _
  | _, _, .none h => by
    have := cks_sm h
    intro T H a T' r e
    simpa [cks, bnd, ret] using this T H a T' r e
  | _, _, .some (m := m) (m' := m') (v := v) hs hs' hm h => by
    have ih := cks_sm h
    intro T H a T' r e
    simp only [cksT] at e
    cases hu : m T with
    | none => simp [hu] at e
    | some p =>
      obtain ⟨u, T1⟩ := p
      simp only [hu] at e
      cases hq : avEq u v with
      | false => simp [hq] at e
      | true =>
        simp only [hq, cond_true] at e
        have h1 := hs _ _ _ hu
        subst h1
        obtain ⟨H1, h2, r1⟩ := hm _ _ _ _ r hu
        have h3 := hs' _ _ _ h2
        subst h3
        rw [avEq_of hq] at h2
        simp only [cks, bnd, chk, h2, if_true]
        exact ih _ _ a T' r e

theorem vT_sm (v : Option AV) : Sm Rl (vT v) (need v ret : M AV) := by rw [vT_eq]; exact Sm.need fun _ => Sm.ret _
theorem THr : HpR Rl THp AHp where
  ld a := by show Sm _ (rdT _) (ld a); rw [ld_eq]; exact rd_sm (ldP_mn _)
  lda n a := by show Sm _ (rdT _) (lda n a); rw [lda_eq]; exact rd_sm (ldaP_mn _ _)
  st n a v := by show Sm _ (exT _) (st n a v); rw [st_eq]; exact ex_sm (stP_mn _ _ _)
  alP cs := by show Sm Rl (exT (alPP cs)) (alP cs); rw [alP_eq]; exact ex_sm (still_mn fun _ _ _ => rfl)
  boxA v := by show Sm _ (exT _) (boxA v); rw [box_eq]; exact ex_sm (still_mn fun _ _ _ => rfl)
  bsA z sz n ps := by show Sm _ (exT _) (bsA z sz n ps); rw [bs_eq]; exact ex_sm (still_mn fun _ _ _ => rfl)
  mkS e b z l c := by show Sm _ (exT _) (mkS e b z l c); rw [mk_eq]; exact ex_sm (still_mn fun _ _ _ => rfl)
  slS e x lo hi mx := by show Sm _ (rdT _) (slS e x lo hi mx); rw [sl_eq]; exact rd_sm (slP_mn _ _ _ _ _)
  app e b x y := by show Sm _ (exT _) (app e b x y); rw [app_eq]; exact ex_sm (appP_mn _ _ _ _)
  appZ e b z x y := by show Sm _ (exT _) (appZ e b z x y); rw [appZ_eq]; exact ex_sm (appZP_mn _ _ _ _ _)
  cpy e x y := by show Sm _ (exT _) (cpy e x y); rw [cpy_eq]; exact ex_sm (cpyP_mn _ _ _)
  clr z x := by show Sm _ (exT _) (clr z x); rw [clr_eq]; exact ex_sm (clrP_mn _ _)
  cvSB x := by show Sm _ (exT _) (cvSB x); rw [sb_eq]; exact ex_sm (still_mn fun _ _ _ => rfl)
  cvSR x := by show Sm _ (exT _) (cvSR x); rw [sr_eq]; exact ex_sm (still_mn fun _ _ _ => rfl)
  cvB x := by show Sm _ (rdT _) (cvB x); rw [cb_eq]; exact rd_sm (cbP_mn _)
  cvR x := by show Sm _ (rdT _) (cvR x); rw [cr_eq]; exact rd_sm (crP_mn _)
  rngS x := by show Sm _ (exT _) (rngS x); rw [rn_eq]; exact ex_sm (still_mn fun _ _ _ => rfl)
  nextS x := by show Sm _ (exT _) (nextS x); rw [nx_eq]; exact ex_sm (nxP_mn _)
  bin op x y := by show Sm _ (vT _) (need (binA op x y) ret); rw [← binF_eq]; exact vT_sm _
  eqX tb tp ts tf ti op x y := by
    show Sm _ (vT _) (eqX tb tp ts tf ti op x y)
    unfold eqXP eqX bin
    rw [← binF_eq]
    cases eqXt tb tp ts tf ti x with
    | true => exact vT_sm _
    | false => exact vT_sm none
  idxS e x i := by show Sm _ (vT _) (idxS e x i); rw [← idxSP_eq]; exact vT_sm _
  idxR l e x i := by show Sm _ (vT _) (idxR l e x i); rw [← idxRP_eq]; exact vT_sm _
  cvI k x := by show Sm _ (vT _) (cvI k x); rw [← cvIP_eq]; exact vT_sm _
  ckg g {m m' v r r'} hs hs' hm hr := by
    cases g with
    | none => exact hr
    | some b =>
      cases b with
      | false => exact hr
      | true =>
        intro T H a T' rl e
        show ∃ t', (ckm m' v r') _ = _ ∧ _
        simp only [THp] at e
        cases hu : m T with
        | none => simp [hu] at e
        | some p =>
          obtain ⟨u, T1⟩ := p
          simp only [hu] at e
          cases hq : avEq u v with
          | false => simp [hq] at e
          | true =>
            simp only [hq, cond_true] at e
            have h1 := hs _ _ _ hu
            subst h1
            obtain ⟨H1, h2, r1⟩ := hm _ _ _ _ rl hu
            have h3 := hs' _ _ _ h2
            subst h3
            rw [avEq_of hq] at h2
            simp only [ckm, h2, if_true]
            exact hr _ _ a T' rl e
  fl n {f f'} h := by
    intro T H a T' rl e
    obtain ⟨nx, tr⟩ := T
    obtain ⟨r1, r2⟩ := rl
    simp only [THp, fN_eq] at e
    simp only at r1
    show ∃ t', fl n f' H = _ ∧ _
    simp only [fl, r1]
    exact h nx ⟨nx.add n, tr⟩ ⟨nx + n, H.bk⟩ a T' ⟨rfl, r2⟩ e
  ro {m m'} hs hs' hm := by
    intro T H a T' rl e
    obtain ⟨H1, h2, r1⟩ := hm _ _ _ _ rl e
    have h1 := hs _ _ _ e
    subst h1
    have h3 := hs' _ _ _ h2
    subst h3
    exact ⟨_, by show ro m' _ = _; simp [ro, h2], r1⟩
  hv {m m' l l'} hm hl := Sm.bnd hm fun _ => Sm.bnd (cks_sm hl) fun _ => Sm.ret _
  mrg n l G := by
    intro T H a T' rl e
    obtain ⟨nx, tr⟩ := T
    obtain ⟨r1, r2⟩ := rl
    simp only [THp, mrgT] at e
    obtain ⟨t', h1, h2⟩ := upT_some e
    simp only [Option.some.injEq, Prod.mk.injEq] at h1
    obtain ⟨_, rfl⟩ := h1
    refine ⟨_, rfl, r1, ?_⟩
    simp only [h2]
    have := upF_sub (mrgUp n G l) r2
    rw [mrgUp_eq n G l H.bk] at this
    exact this
  ldS a := rd_st _
  ldaS n a := rd_st _
  slSS a b c d e := rd_st _
  cvBS a := rd_st _
  cvRS a := rd_st _
  roS m h := h
  ldS' a := by show St (ld a); rw [ld_eq]; exact rdA_st _
  ldaS' n a := by show St (lda n a); rw [lda_eq]; exact rdA_st _
  slSS' e x lo hi mx := by show St (slS e x lo hi mx); rw [sl_eq]; exact rdA_st _
  cvBS' x := by show St (cvB x); rw [cb_eq]; exact rdA_st _
  cvRS' x := by show St (cvR x); rw [cr_eq]; exact rdA_st _
  roS' m h := still_ro m
end Go.Ab
