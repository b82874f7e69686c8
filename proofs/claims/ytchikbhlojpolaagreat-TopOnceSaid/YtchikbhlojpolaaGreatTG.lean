/- A wider tree of blocks, shallow, for quicker reckoning. -/
import Derived.Test.YtchikbhlojpolaaGreatTF
set_option linter.unusedVariables false
set_option linter.unusedSimpArgs false
namespace Go.Ab
open Go

structure N8 (α : Type) where
  c0 : α
  c1 : α
  c2 : α
  c3 : α
  c4 : α
  c5 : α
  c6 : α
  c7 : α
noncomputable section
def selD {α : Type} (e : α) (d : Nat) : N8 α → α := Nat.rec (motive := fun _ => N8 α → α) (fun t => N8.rec (motive := fun _ => α) (fun c0 c1 c2 c3 c4 c5 c6 c7 => c0) t) (fun d _ => Nat.rec (motive := fun _ => N8 α → α) (fun t => N8.rec (motive := fun _ => α) (fun c0 c1 c2 c3 c4 c5 c6 c7 => c1) t) (fun d _ => Nat.rec (motive := fun _ => N8 α → α) (fun t => N8.rec (motive := fun _ => α) (fun c0 c1 c2 c3 c4 c5 c6 c7 => c2) t) (fun d _ => Nat.rec (motive := fun _ => N8 α → α) (fun t => N8.rec (motive := fun _ => α) (fun c0 c1 c2 c3 c4 c5 c6 c7 => c3) t) (fun d _ => Nat.rec (motive := fun _ => N8 α → α) (fun t => N8.rec (motive := fun _ => α) (fun c0 c1 c2 c3 c4 c5 c6 c7 => c4) t) (fun d _ => Nat.rec (motive := fun _ => N8 α → α) (fun t => N8.rec (motive := fun _ => α) (fun c0 c1 c2 c3 c4 c5 c6 c7 => c5) t) (fun d _ => Nat.rec (motive := fun _ => N8 α → α) (fun t => N8.rec (motive := fun _ => α) (fun c0 c1 c2 c3 c4 c5 c6 c7 => c6) t) (fun d _ => Nat.rec (motive := fun _ => N8 α → α) (fun t => N8.rec (motive := fun _ => α) (fun c0 c1 c2 c3 c4 c5 c6 c7 => c7) t) (fun _ _ _ => e) d) d) d) d) d) d) d) d
def updD {R α : Type} (d : Nat) : N8 α → (α → (α → R) → R) → (N8 α → R) → R := Nat.rec (motive := fun _ => N8 α → (α → (α → R) → R) → (N8 α → R) → R) (fun t f c => N8.rec (motive := fun _ => R) (fun c0 c1 c2 c3 c4 c5 c6 c7 => f c0 fun x => c (N8.mk x c1 c2 c3 c4 c5 c6 c7)) t) (fun d _ => Nat.rec (motive := fun _ => N8 α → (α → (α → R) → R) → (N8 α → R) → R) (fun t f c => N8.rec (motive := fun _ => R) (fun c0 c1 c2 c3 c4 c5 c6 c7 => f c1 fun x => c (N8.mk c0 x c2 c3 c4 c5 c6 c7)) t) (fun d _ => Nat.rec (motive := fun _ => N8 α → (α → (α → R) → R) → (N8 α → R) → R) (fun t f c => N8.rec (motive := fun _ => R) (fun c0 c1 c2 c3 c4 c5 c6 c7 => f c2 fun x => c (N8.mk c0 c1 x c3 c4 c5 c6 c7)) t) (fun d _ => Nat.rec (motive := fun _ => N8 α → (α → (α → R) → R) → (N8 α → R) → R) (fun t f c => N8.rec (motive := fun _ => R) (fun c0 c1 c2 c3 c4 c5 c6 c7 => f c3 fun x => c (N8.mk c0 c1 c2 x c4 c5 c6 c7)) t) (fun d _ => Nat.rec (motive := fun _ => N8 α → (α → (α → R) → R) → (N8 α → R) → R) (fun t f c => N8.rec (motive := fun _ => R) (fun c0 c1 c2 c3 c4 c5 c6 c7 => f c4 fun x => c (N8.mk c0 c1 c2 c3 x c5 c6 c7)) t) (fun d _ => Nat.rec (motive := fun _ => N8 α → (α → (α → R) → R) → (N8 α → R) → R) (fun t f c => N8.rec (motive := fun _ => R) (fun c0 c1 c2 c3 c4 c5 c6 c7 => f c5 fun x => c (N8.mk c0 c1 c2 c3 c4 x c6 c7)) t) (fun d _ => Nat.rec (motive := fun _ => N8 α → (α → (α → R) → R) → (N8 α → R) → R) (fun t f c => N8.rec (motive := fun _ => R) (fun c0 c1 c2 c3 c4 c5 c6 c7 => f c6 fun x => c (N8.mk c0 c1 c2 c3 c4 c5 x c7)) t) (fun d _ => Nat.rec (motive := fun _ => N8 α → (α → (α → R) → R) → (N8 α → R) → R) (fun t f c => N8.rec (motive := fun _ => R) (fun c0 c1 c2 c3 c4 c5 c6 c7 => f c7 fun x => c (N8.mk c0 c1 c2 c3 c4 c5 c6 x)) t) (fun _ _ t _ c => c t) d) d) d) d) d) d) d) d
def updP {α : Type} : Nat → N8 α → (α → α) → N8 α
  | 0, ⟨c0, c1, c2, c3, c4, c5, c6, c7⟩, g => ⟨g c0, c1, c2, c3, c4, c5, c6, c7⟩
  | 1, ⟨c0, c1, c2, c3, c4, c5, c6, c7⟩, g => ⟨c0, g c1, c2, c3, c4, c5, c6, c7⟩
  | 2, ⟨c0, c1, c2, c3, c4, c5, c6, c7⟩, g => ⟨c0, c1, g c2, c3, c4, c5, c6, c7⟩
  | 3, ⟨c0, c1, c2, c3, c4, c5, c6, c7⟩, g => ⟨c0, c1, c2, g c3, c4, c5, c6, c7⟩
  | 4, ⟨c0, c1, c2, c3, c4, c5, c6, c7⟩, g => ⟨c0, c1, c2, c3, g c4, c5, c6, c7⟩
  | 5, ⟨c0, c1, c2, c3, c4, c5, c6, c7⟩, g => ⟨c0, c1, c2, c3, c4, g c5, c6, c7⟩
  | 6, ⟨c0, c1, c2, c3, c4, c5, c6, c7⟩, g => ⟨c0, c1, c2, c3, c4, c5, g c6, c7⟩
  | 7, ⟨c0, c1, c2, c3, c4, c5, c6, c7⟩, g => ⟨c0, c1, c2, c3, c4, c5, c6, g c7⟩
  | _ + 8, t, _ => t
theorem updD_eq {R α : Type} (d : Nat) (t : N8 α) (f : α → (α → R) → R) (g : α → α) (hf : ∀ x c, f x c = c (g x)) (c : N8 α → R) : updD d t f c = c (updP d t g) := by
  obtain ⟨c0, c1, c2, c3, c4, c5, c6, c7⟩ := t
  match d with
  | 0 => exact hf _ _
  | 1 => exact hf _ _
  | 2 => exact hf _ _
  | 3 => exact hf _ _
  | 4 => exact hf _ _
  | 5 => exact hf _ _
  | 6 => exact hf _ _
  | 7 => exact hf _ _
  | d + 8 => rfl
theorem sel_upd {α : Type} (e : α) (d d' : Nat) (hd : d < 8) (t : N8 α) (g : α → α) : selD e d' (updP d t g) = if d' = d then g (selD e d t) else selD e d' t := by
  obtain ⟨c0, c1, c2, c3, c4, c5, c6, c7⟩ := t
  match d, hd with
  | 0, _ => match d' with
    | 0 | 1 | 2 | 3 | 4 | 5 | 6 | 7 | _ + 8 => rfl
  | 1, _ => match d' with
    | 0 | 1 | 2 | 3 | 4 | 5 | 6 | 7 | _ + 8 => rfl
  | 2, _ => match d' with
    | 0 | 1 | 2 | 3 | 4 | 5 | 6 | 7 | _ + 8 => rfl
  | 3, _ => match d' with
    | 0 | 1 | 2 | 3 | 4 | 5 | 6 | 7 | _ + 8 => rfl
  | 4, _ => match d' with
    | 0 | 1 | 2 | 3 | 4 | 5 | 6 | 7 | _ + 8 => rfl
  | 5, _ => match d' with
    | 0 | 1 | 2 | 3 | 4 | 5 | 6 | 7 | _ + 8 => rfl
  | 6, _ => match d' with
    | 0 | 1 | 2 | 3 | 4 | 5 | 6 | 7 | _ + 8 => rfl
  | 7, _ => match d' with
    | 0 | 1 | 2 | 3 | 4 | 5 | 6 | 7 | _ + 8 => rfl
abbrev dv (k : Nat) : Nat := Nat.div k 8
def lf0 (k : Nat) (x : Option Blk) : Option Blk := Nat.rec (motive := fun _ => Option Blk) x (fun _ _ => none) k
def Lv : Nat → Type
  | 0 => Option Blk
  | n + 1 => N8 (Lv n)
def em : (n : Nat) → Lv n
  | 0 => (none : Option Blk)
  | n + 1 => (⟨em n, em n, em n, em n, em n, em n, em n, em n⟩ : N8 (Lv n))
def getL : (n : Nat) → Lv n → Nat → Option Blk
  | 0, t, k => lf0 k t
  | n + 1, t, k => getL n (selD (em n) (k % 8) t) (k / 8)
def putL (x : Option Blk) : (n : Nat) → Lv n → Nat → Lv n
  | 0, _, _ => x
  | n + 1, t, k => updP (k % 8) t fun u => putL x n u (k / 8)
theorem getL_big : ∀ (n : Nat) (t : Lv n) (k : Nat), 8 ^ n ≤ k → getL n t k = none
  | 0, t, k, h => by
    cases k with
    | zero => simp at h
    | succ k => rfl
  | n + 1, t, k, h => by
    have : 8 ^ (n + 1) = 8 ^ n * 8 := Nat.pow_succ ..
    exact getL_big n _ (k / 8) (by omega)
theorem getL_put (x : Option Blk) : ∀ (n : Nat) (t : Lv n) (k : Nat), k < 8 ^ n → ∀ b, getL n (putL x n t k) b = if b = k then x else getL n t b
  | 0, t, k, h, b => by
    have hk : k = 0 := by simp at h; exact h
    subst hk
    cases b with
    | zero => rfl
    | succ b => rfl
  | n + 1, t, k, h, b => by
    have hp : 8 ^ (n + 1) = 8 ^ n * 8 := Nat.pow_succ ..
    have hs := sel_upd (em n) (k % 8) (b % 8) (Nat.mod_lt _ (by omega)) (show N8 (Lv n) from t) (fun u => putL x n u (k / 8))
    refine (congrArg (fun z => getL n z (b / 8)) hs).trans ?_
    dsimp only
    by_cases hd : b % 8 = k % 8
    · rw [if_pos hd, getL_put x n _ (k / 8) (by omega)]
      by_cases hb : b = k
      · subst hb; simp
      · rw [if_neg hb, if_neg (by omega)]
        rw [← hd]; rfl
    · rw [if_neg hd]
      by_cases hb : b = k
      · subst hb; exact absurd rfl hd
      · rw [if_neg hb]; rfl
abbrev e1 : Lv 1 := em 1
abbrev e2 : Lv 2 := em 2
abbrev e3 : Lv 3 := em 3
abbrev e4 : Lv 4 := em 4
abbrev e5 : Lv 5 := em 5
def find6 (t : Lv 6) (k : Nat) : Option Blk := lf0 (dv (dv (dv (dv (dv (dv k)))))) (selD (α := Lv 0) (none : Option Blk) (Nat.mod (dv (dv (dv (dv (dv k))))) 8) (selD (α := Lv 1) e1 (Nat.mod (dv (dv (dv (dv k)))) 8) (selD (α := Lv 2) e2 (Nat.mod (dv (dv (dv k))) 8) (selD (α := Lv 3) e3 (Nat.mod (dv (dv k)) 8) (selD (α := Lv 4) e4 (Nat.mod (dv k) 8) (selD (α := Lv 5) e5 (Nat.mod k 8) t))))))
theorem find6_eq (t : Lv 6) (k : Nat) : find6 t k = getL 6 t k := rfl
def put6 {R : Type} (x : Option Blk) (t : Lv 6) (k : Nat) (c : Lv 6 → R) : R :=
  updD (α := Lv 5) (Nat.mod k 8) t (fun t c => updD (α := Lv 4) (Nat.mod (dv k) 8) t (fun t c => updD (α := Lv 3) (Nat.mod (dv (dv k)) 8) t (fun t c => updD (α := Lv 2) (Nat.mod (dv (dv (dv k))) 8) t (fun t c => updD (α := Lv 1) (Nat.mod (dv (dv (dv (dv k)))) 8) t (fun t c => updD (α := Lv 0) (Nat.mod (dv (dv (dv (dv (dv k))))) 8) t (fun _ c => c x) c) c) c) c) c) c
theorem put6_eq {R : Type} (x : Option Blk) (t : Lv 6) (k : Nat) (c : Lv 6 → R) : put6 x t k c = c (putL x 6 t k) := by
  unfold put6
  refine updD_eq _ _ _ _ (fun t c => ?_) _
  refine updD_eq _ _ _ _ (fun t c => ?_) _
  refine updD_eq _ _ _ _ (fun t c => ?_) _
  refine updD_eq _ _ _ _ (fun t c => ?_) _
  refine updD_eq _ _ _ _ (fun t c => ?_) _
  refine updD_eq _ _ _ _ (fun t c => ?_) _
  rfl

structure UT where
  nx : Nat
  tr : Lv 6
abbrev RR := Option (AV × UT)
abbrev Y0 := Option Blk
abbrev Y1 := N8 Y0
abbrev Y2 := N8 Y1
abbrev Y3 := N8 Y2
abbrev Y4 := N8 Y3
abbrev Y5 := N8 Y4
abbrev Y6 := N8 Y5
def sel0 (d : Nat) : Y1 → Y0 := Nat.rec (motive := fun _ => Y1 → Y0) (fun t => N8.rec (motive := fun _ => Y0) (fun c0 c1 c2 c3 c4 c5 c6 c7 => c0) t) (fun d _ => Nat.rec (motive := fun _ => Y1 → Y0) (fun t => N8.rec (motive := fun _ => Y0) (fun c0 c1 c2 c3 c4 c5 c6 c7 => c1) t) (fun d _ => Nat.rec (motive := fun _ => Y1 → Y0) (fun t => N8.rec (motive := fun _ => Y0) (fun c0 c1 c2 c3 c4 c5 c6 c7 => c2) t) (fun d _ => Nat.rec (motive := fun _ => Y1 → Y0) (fun t => N8.rec (motive := fun _ => Y0) (fun c0 c1 c2 c3 c4 c5 c6 c7 => c3) t) (fun d _ => Nat.rec (motive := fun _ => Y1 → Y0) (fun t => N8.rec (motive := fun _ => Y0) (fun c0 c1 c2 c3 c4 c5 c6 c7 => c4) t) (fun d _ => Nat.rec (motive := fun _ => Y1 → Y0) (fun t => N8.rec (motive := fun _ => Y0) (fun c0 c1 c2 c3 c4 c5 c6 c7 => c5) t) (fun d _ => Nat.rec (motive := fun _ => Y1 → Y0) (fun t => N8.rec (motive := fun _ => Y0) (fun c0 c1 c2 c3 c4 c5 c6 c7 => c6) t) (fun d _ => Nat.rec (motive := fun _ => Y1 → Y0) (fun t => N8.rec (motive := fun _ => Y0) (fun c0 c1 c2 c3 c4 c5 c6 c7 => c7) t) (fun _ _ _ => (em 0 : Lv 0)) d) d) d) d) d) d) d) d
def upd0 (d : Nat) : Y1 → (Y0 → (Y0 → RR) → RR) → (Y1 → RR) → RR := Nat.rec (motive := fun _ => Y1 → (Y0 → (Y0 → RR) → RR) → (Y1 → RR) → RR) (fun t f c => N8.rec (motive := fun _ => RR) (fun c0 c1 c2 c3 c4 c5 c6 c7 => f c0 fun x => c (N8.mk x c1 c2 c3 c4 c5 c6 c7)) t) (fun d _ => Nat.rec (motive := fun _ => Y1 → (Y0 → (Y0 → RR) → RR) → (Y1 → RR) → RR) (fun t f c => N8.rec (motive := fun _ => RR) (fun c0 c1 c2 c3 c4 c5 c6 c7 => f c1 fun x => c (N8.mk c0 x c2 c3 c4 c5 c6 c7)) t) (fun d _ => Nat.rec (motive := fun _ => Y1 → (Y0 → (Y0 → RR) → RR) → (Y1 → RR) → RR) (fun t f c => N8.rec (motive := fun _ => RR) (fun c0 c1 c2 c3 c4 c5 c6 c7 => f c2 fun x => c (N8.mk c0 c1 x c3 c4 c5 c6 c7)) t) (fun d _ => Nat.rec (motive := fun _ => Y1 → (Y0 → (Y0 → RR) → RR) → (Y1 → RR) → RR) (fun t f c => N8.rec (motive := fun _ => RR) (fun c0 c1 c2 c3 c4 c5 c6 c7 => f c3 fun x => c (N8.mk c0 c1 c2 x c4 c5 c6 c7)) t) (fun d _ => Nat.rec (motive := fun _ => Y1 → (Y0 → (Y0 → RR) → RR) → (Y1 → RR) → RR) (fun t f c => N8.rec (motive := fun _ => RR) (fun c0 c1 c2 c3 c4 c5 c6 c7 => f c4 fun x => c (N8.mk c0 c1 c2 c3 x c5 c6 c7)) t) (fun d _ => Nat.rec (motive := fun _ => Y1 → (Y0 → (Y0 → RR) → RR) → (Y1 → RR) → RR) (fun t f c => N8.rec (motive := fun _ => RR) (fun c0 c1 c2 c3 c4 c5 c6 c7 => f c5 fun x => c (N8.mk c0 c1 c2 c3 c4 x c6 c7)) t) (fun d _ => Nat.rec (motive := fun _ => Y1 → (Y0 → (Y0 → RR) → RR) → (Y1 → RR) → RR) (fun t f c => N8.rec (motive := fun _ => RR) (fun c0 c1 c2 c3 c4 c5 c6 c7 => f c6 fun x => c (N8.mk c0 c1 c2 c3 c4 c5 x c7)) t) (fun d _ => Nat.rec (motive := fun _ => Y1 → (Y0 → (Y0 → RR) → RR) → (Y1 → RR) → RR) (fun t f c => N8.rec (motive := fun _ => RR) (fun c0 c1 c2 c3 c4 c5 c6 c7 => f c7 fun x => c (N8.mk c0 c1 c2 c3 c4 c5 c6 x)) t) (fun _ _ t _ c => c t) d) d) d) d) d) d) d) d
def sel1 (d : Nat) : Y2 → Y1 := Nat.rec (motive := fun _ => Y2 → Y1) (fun t => N8.rec (motive := fun _ => Y1) (fun c0 c1 c2 c3 c4 c5 c6 c7 => c0) t) (fun d _ => Nat.rec (motive := fun _ => Y2 → Y1) (fun t => N8.rec (motive := fun _ => Y1) (fun c0 c1 c2 c3 c4 c5 c6 c7 => c1) t) (fun d _ => Nat.rec (motive := fun _ => Y2 → Y1) (fun t => N8.rec (motive := fun _ => Y1) (fun c0 c1 c2 c3 c4 c5 c6 c7 => c2) t) (fun d _ => Nat.rec (motive := fun _ => Y2 → Y1) (fun t => N8.rec (motive := fun _ => Y1) (fun c0 c1 c2 c3 c4 c5 c6 c7 => c3) t) (fun d _ => Nat.rec (motive := fun _ => Y2 → Y1) (fun t => N8.rec (motive := fun _ => Y1) (fun c0 c1 c2 c3 c4 c5 c6 c7 => c4) t) (fun d _ => Nat.rec (motive := fun _ => Y2 → Y1) (fun t => N8.rec (motive := fun _ => Y1) (fun c0 c1 c2 c3 c4 c5 c6 c7 => c5) t) (fun d _ => Nat.rec (motive := fun _ => Y2 → Y1) (fun t => N8.rec (motive := fun _ => Y1) (fun c0 c1 c2 c3 c4 c5 c6 c7 => c6) t) (fun d _ => Nat.rec (motive := fun _ => Y2 → Y1) (fun t => N8.rec (motive := fun _ => Y1) (fun c0 c1 c2 c3 c4 c5 c6 c7 => c7) t) (fun _ _ _ => (em 1 : Lv 1)) d) d) d) d) d) d) d) d
def upd1 (d : Nat) : Y2 → (Y1 → (Y1 → RR) → RR) → (Y2 → RR) → RR := Nat.rec (motive := fun _ => Y2 → (Y1 → (Y1 → RR) → RR) → (Y2 → RR) → RR) (fun t f c => N8.rec (motive := fun _ => RR) (fun c0 c1 c2 c3 c4 c5 c6 c7 => f c0 fun x => c (N8.mk x c1 c2 c3 c4 c5 c6 c7)) t) (fun d _ => Nat.rec (motive := fun _ => Y2 → (Y1 → (Y1 → RR) → RR) → (Y2 → RR) → RR) (fun t f c => N8.rec (motive := fun _ => RR) (fun c0 c1 c2 c3 c4 c5 c6 c7 => f c1 fun x => c (N8.mk c0 x c2 c3 c4 c5 c6 c7)) t) (fun d _ => Nat.rec (motive := fun _ => Y2 → (Y1 → (Y1 → RR) → RR) → (Y2 → RR) → RR) (fun t f c => N8.rec (motive := fun _ => RR) (fun c0 c1 c2 c3 c4 c5 c6 c7 => f c2 fun x => c (N8.mk c0 c1 x c3 c4 c5 c6 c7)) t) (fun d _ => Nat.rec (motive := fun _ => Y2 → (Y1 → (Y1 → RR) → RR) → (Y2 → RR) → RR) (fun t f c => N8.rec (motive := fun _ => RR) (fun c0 c1 c2 c3 c4 c5 c6 c7 => f c3 fun x => c (N8.mk c0 c1 c2 x c4 c5 c6 c7)) t) (fun d _ => Nat.rec (motive := fun _ => Y2 → (Y1 → (Y1 → RR) → RR) → (Y2 → RR) → RR) (fun t f c => N8.rec (motive := fun _ => RR) (fun c0 c1 c2 c3 c4 c5 c6 c7 => f c4 fun x => c (N8.mk c0 c1 c2 c3 x c5 c6 c7)) t) (fun d _ => Nat.rec (motive := fun _ => Y2 → (Y1 → (Y1 → RR) → RR) → (Y2 → RR) → RR) (fun t f c => N8.rec (motive := fun _ => RR) (fun c0 c1 c2 c3 c4 c5 c6 c7 => f c5 fun x => c (N8.mk c0 c1 c2 c3 c4 x c6 c7)) t) (fun d _ => Nat.rec (motive := fun _ => Y2 → (Y1 → (Y1 → RR) → RR) → (Y2 → RR) → RR) (fun t f c => N8.rec (motive := fun _ => RR) (fun c0 c1 c2 c3 c4 c5 c6 c7 => f c6 fun x => c (N8.mk c0 c1 c2 c3 c4 c5 x c7)) t) (fun d _ => Nat.rec (motive := fun _ => Y2 → (Y1 → (Y1 → RR) → RR) → (Y2 → RR) → RR) (fun t f c => N8.rec (motive := fun _ => RR) (fun c0 c1 c2 c3 c4 c5 c6 c7 => f c7 fun x => c (N8.mk c0 c1 c2 c3 c4 c5 c6 x)) t) (fun _ _ t _ c => c t) d) d) d) d) d) d) d) d
def sel2 (d : Nat) : Y3 → Y2 := Nat.rec (motive := fun _ => Y3 → Y2) (fun t => N8.rec (motive := fun _ => Y2) (fun c0 c1 c2 c3 c4 c5 c6 c7 => c0) t) (fun d _ => Nat.rec (motive := fun _ => Y3 → Y2) (fun t => N8.rec (motive := fun _ => Y2) (fun c0 c1 c2 c3 c4 c5 c6 c7 => c1) t) (fun d _ => Nat.rec (motive := fun _ => Y3 → Y2) (fun t => N8.rec (motive := fun _ => Y2) (fun c0 c1 c2 c3 c4 c5 c6 c7 => c2) t) (fun d _ => Nat.rec (motive := fun _ => Y3 → Y2) (fun t => N8.rec (motive := fun _ => Y2) (fun c0 c1 c2 c3 c4 c5 c6 c7 => c3) t) (fun d _ => Nat.rec (motive := fun _ => Y3 → Y2) (fun t => N8.rec (motive := fun _ => Y2) (fun c0 c1 c2 c3 c4 c5 c6 c7 => c4) t) (fun d _ => Nat.rec (motive := fun _ => Y3 → Y2) (fun t => N8.rec (motive := fun _ => Y2) (fun c0 c1 c2 c3 c4 c5 c6 c7 => c5) t) (fun d _ => Nat.rec (motive := fun _ => Y3 → Y2) (fun t => N8.rec (motive := fun _ => Y2) (fun c0 c1 c2 c3 c4 c5 c6 c7 => c6) t) (fun d _ => Nat.rec (motive := fun _ => Y3 → Y2) (fun t => N8.rec (motive := fun _ => Y2) (fun c0 c1 c2 c3 c4 c5 c6 c7 => c7) t) (fun _ _ _ => (em 2 : Lv 2)) d) d) d) d) d) d) d) d
def upd2 (d : Nat) : Y3 → (Y2 → (Y2 → RR) → RR) → (Y3 → RR) → RR := Nat.rec (motive := fun _ => Y3 → (Y2 → (Y2 → RR) → RR) → (Y3 → RR) → RR) (fun t f c => N8.rec (motive := fun _ => RR) (fun c0 c1 c2 c3 c4 c5 c6 c7 => f c0 fun x => c (N8.mk x c1 c2 c3 c4 c5 c6 c7)) t) (fun d _ => Nat.rec (motive := fun _ => Y3 → (Y2 → (Y2 → RR) → RR) → (Y3 → RR) → RR) (fun t f c => N8.rec (motive := fun _ => RR) (fun c0 c1 c2 c3 c4 c5 c6 c7 => f c1 fun x => c (N8.mk c0 x c2 c3 c4 c5 c6 c7)) t) (fun d _ => Nat.rec (motive := fun _ => Y3 → (Y2 → (Y2 → RR) → RR) → (Y3 → RR) → RR) (fun t f c => N8.rec (motive := fun _ => RR) (fun c0 c1 c2 c3 c4 c5 c6 c7 => f c2 fun x => c (N8.mk c0 c1 x c3 c4 c5 c6 c7)) t) (fun d _ => Nat.rec (motive := fun _ => Y3 → (Y2 → (Y2 → RR) → RR) → (Y3 → RR) → RR) (fun t f c => N8.rec (motive := fun _ => RR) (fun c0 c1 c2 c3 c4 c5 c6 c7 => f c3 fun x => c (N8.mk c0 c1 c2 x c4 c5 c6 c7)) t) (fun d _ => Nat.rec (motive := fun _ => Y3 → (Y2 → (Y2 → RR) → RR) → (Y3 → RR) → RR) (fun t f c => N8.rec (motive := fun _ => RR) (fun c0 c1 c2 c3 c4 c5 c6 c7 => f c4 fun x => c (N8.mk c0 c1 c2 c3 x c5 c6 c7)) t) (fun d _ => Nat.rec (motive := fun _ => Y3 → (Y2 → (Y2 → RR) → RR) → (Y3 → RR) → RR) (fun t f c => N8.rec (motive := fun _ => RR) (fun c0 c1 c2 c3 c4 c5 c6 c7 => f c5 fun x => c (N8.mk c0 c1 c2 c3 c4 x c6 c7)) t) (fun d _ => Nat.rec (motive := fun _ => Y3 → (Y2 → (Y2 → RR) → RR) → (Y3 → RR) → RR) (fun t f c => N8.rec (motive := fun _ => RR) (fun c0 c1 c2 c3 c4 c5 c6 c7 => f c6 fun x => c (N8.mk c0 c1 c2 c3 c4 c5 x c7)) t) (fun d _ => Nat.rec (motive := fun _ => Y3 → (Y2 → (Y2 → RR) → RR) → (Y3 → RR) → RR) (fun t f c => N8.rec (motive := fun _ => RR) (fun c0 c1 c2 c3 c4 c5 c6 c7 => f c7 fun x => c (N8.mk c0 c1 c2 c3 c4 c5 c6 x)) t) (fun _ _ t _ c => c t) d) d) d) d) d) d) d) d
def sel3 (d : Nat) : Y4 → Y3 := Nat.rec (motive := fun _ => Y4 → Y3) (fun t => N8.rec (motive := fun _ => Y3) (fun c0 c1 c2 c3 c4 c5 c6 c7 => c0) t) (fun d _ => Nat.rec (motive := fun _ => Y4 → Y3) (fun t => N8.rec (motive := fun _ => Y3) (fun c0 c1 c2 c3 c4 c5 c6 c7 => c1) t) (fun d _ => Nat.rec (motive := fun _ => Y4 → Y3) (fun t => N8.rec (motive := fun _ => Y3) (fun c0 c1 c2 c3 c4 c5 c6 c7 => c2) t) (fun d _ => Nat.rec (motive := fun _ => Y4 → Y3) (fun t => N8.rec (motive := fun _ => Y3) (fun c0 c1 c2 c3 c4 c5 c6 c7 => c3) t) (fun d _ => Nat.rec (motive := fun _ => Y4 → Y3) (fun t => N8.rec (motive := fun _ => Y3) (fun c0 c1 c2 c3 c4 c5 c6 c7 => c4) t) (fun d _ => Nat.rec (motive := fun _ => Y4 → Y3) (fun t => N8.rec (motive := fun _ => Y3) (fun c0 c1 c2 c3 c4 c5 c6 c7 => c5) t) (fun d _ => Nat.rec (motive := fun _ => Y4 → Y3) (fun t => N8.rec (motive := fun _ => Y3) (fun c0 c1 c2 c3 c4 c5 c6 c7 => c6) t) (fun d _ => Nat.rec (motive := fun _ => Y4 → Y3) (fun t => N8.rec (motive := fun _ => Y3) (fun c0 c1 c2 c3 c4 c5 c6 c7 => c7) t) (fun _ _ _ => (em 3 : Lv 3)) d) d) d) d) d) d) d) d
def upd3 (d : Nat) : Y4 → (Y3 → (Y3 → RR) → RR) → (Y4 → RR) → RR := Nat.rec (motive := fun _ => Y4 → (Y3 → (Y3 → RR) → RR) → (Y4 → RR) → RR) (fun t f c => N8.rec (motive := fun _ => RR) (fun c0 c1 c2 c3 c4 c5 c6 c7 => f c0 fun x => c (N8.mk x c1 c2 c3 c4 c5 c6 c7)) t) (fun d _ => Nat.rec (motive := fun _ => Y4 → (Y3 → (Y3 → RR) → RR) → (Y4 → RR) → RR) (fun t f c => N8.rec (motive := fun _ => RR) (fun c0 c1 c2 c3 c4 c5 c6 c7 => f c1 fun x => c (N8.mk c0 x c2 c3 c4 c5 c6 c7)) t) (fun d _ => Nat.rec (motive := fun _ => Y4 → (Y3 → (Y3 → RR) → RR) → (Y4 → RR) → RR) (fun t f c => N8.rec (motive := fun _ => RR) (fun c0 c1 c2 c3 c4 c5 c6 c7 => f c2 fun x => c (N8.mk c0 c1 x c3 c4 c5 c6 c7)) t) (fun d _ => Nat.rec (motive := fun _ => Y4 → (Y3 → (Y3 → RR) → RR) → (Y4 → RR) → RR) (fun t f c => N8.rec (motive := fun _ => RR) (fun c0 c1 c2 c3 c4 c5 c6 c7 => f c3 fun x => c (N8.mk c0 c1 c2 x c4 c5 c6 c7)) t) (fun d _ => Nat.rec (motive := fun _ => Y4 → (Y3 → (Y3 → RR) → RR) → (Y4 → RR) → RR) (fun t f c => N8.rec (motive := fun _ => RR) (fun c0 c1 c2 c3 c4 c5 c6 c7 => f c4 fun x => c (N8.mk c0 c1 c2 c3 x c5 c6 c7)) t) (fun d _ => Nat.rec (motive := fun _ => Y4 → (Y3 → (Y3 → RR) → RR) → (Y4 → RR) → RR) (fun t f c => N8.rec (motive := fun _ => RR) (fun c0 c1 c2 c3 c4 c5 c6 c7 => f c5 fun x => c (N8.mk c0 c1 c2 c3 c4 x c6 c7)) t) (fun d _ => Nat.rec (motive := fun _ => Y4 → (Y3 → (Y3 → RR) → RR) → (Y4 → RR) → RR) (fun t f c => N8.rec (motive := fun _ => RR) (fun c0 c1 c2 c3 c4 c5 c6 c7 => f c6 fun x => c (N8.mk c0 c1 c2 c3 c4 c5 x c7)) t) (fun d _ => Nat.rec (motive := fun _ => Y4 → (Y3 → (Y3 → RR) → RR) → (Y4 → RR) → RR) (fun t f c => N8.rec (motive := fun _ => RR) (fun c0 c1 c2 c3 c4 c5 c6 c7 => f c7 fun x => c (N8.mk c0 c1 c2 c3 c4 c5 c6 x)) t) (fun _ _ t _ c => c t) d) d) d) d) d) d) d) d
def sel4 (d : Nat) : Y5 → Y4 := Nat.rec (motive := fun _ => Y5 → Y4) (fun t => N8.rec (motive := fun _ => Y4) (fun c0 c1 c2 c3 c4 c5 c6 c7 => c0) t) (fun d _ => Nat.rec (motive := fun _ => Y5 → Y4) (fun t => N8.rec (motive := fun _ => Y4) (fun c0 c1 c2 c3 c4 c5 c6 c7 => c1) t) (fun d _ => Nat.rec (motive := fun _ => Y5 → Y4) (fun t => N8.rec (motive := fun _ => Y4) (fun c0 c1 c2 c3 c4 c5 c6 c7 => c2) t) (fun d _ => Nat.rec (motive := fun _ => Y5 → Y4) (fun t => N8.rec (motive := fun _ => Y4) (fun c0 c1 c2 c3 c4 c5 c6 c7 => c3) t) (fun d _ => Nat.rec (motive := fun _ => Y5 → Y4) (fun t => N8.rec (motive := fun _ => Y4) (fun c0 c1 c2 c3 c4 c5 c6 c7 => c4) t) (fun d _ => Nat.rec (motive := fun _ => Y5 → Y4) (fun t => N8.rec (motive := fun _ => Y4) (fun c0 c1 c2 c3 c4 c5 c6 c7 => c5) t) (fun d _ => Nat.rec (motive := fun _ => Y5 → Y4) (fun t => N8.rec (motive := fun _ => Y4) (fun c0 c1 c2 c3 c4 c5 c6 c7 => c6) t) (fun d _ => Nat.rec (motive := fun _ => Y5 → Y4) (fun t => N8.rec (motive := fun _ => Y4) (fun c0 c1 c2 c3 c4 c5 c6 c7 => c7) t) (fun _ _ _ => (em 4 : Lv 4)) d) d) d) d) d) d) d) d
def upd4 (d : Nat) : Y5 → (Y4 → (Y4 → RR) → RR) → (Y5 → RR) → RR := Nat.rec (motive := fun _ => Y5 → (Y4 → (Y4 → RR) → RR) → (Y5 → RR) → RR) (fun t f c => N8.rec (motive := fun _ => RR) (fun c0 c1 c2 c3 c4 c5 c6 c7 => f c0 fun x => c (N8.mk x c1 c2 c3 c4 c5 c6 c7)) t) (fun d _ => Nat.rec (motive := fun _ => Y5 → (Y4 → (Y4 → RR) → RR) → (Y5 → RR) → RR) (fun t f c => N8.rec (motive := fun _ => RR) (fun c0 c1 c2 c3 c4 c5 c6 c7 => f c1 fun x => c (N8.mk c0 x c2 c3 c4 c5 c6 c7)) t) (fun d _ => Nat.rec (motive := fun _ => Y5 → (Y4 → (Y4 → RR) → RR) → (Y5 → RR) → RR) (fun t f c => N8.rec (motive := fun _ => RR) (fun c0 c1 c2 c3 c4 c5 c6 c7 => f c2 fun x => c (N8.mk c0 c1 x c3 c4 c5 c6 c7)) t) (fun d _ => Nat.rec (motive := fun _ => Y5 → (Y4 → (Y4 → RR) → RR) → (Y5 → RR) → RR) (fun t f c => N8.rec (motive := fun _ => RR) (fun c0 c1 c2 c3 c4 c5 c6 c7 => f c3 fun x => c (N8.mk c0 c1 c2 x c4 c5 c6 c7)) t) (fun d _ => Nat.rec (motive := fun _ => Y5 → (Y4 → (Y4 → RR) → RR) → (Y5 → RR) → RR) (fun t f c => N8.rec (motive := fun _ => RR) (fun c0 c1 c2 c3 c4 c5 c6 c7 => f c4 fun x => c (N8.mk c0 c1 c2 c3 x c5 c6 c7)) t) (fun d _ => Nat.rec (motive := fun _ => Y5 → (Y4 → (Y4 → RR) → RR) → (Y5 → RR) → RR) (fun t f c => N8.rec (motive := fun _ => RR) (fun c0 c1 c2 c3 c4 c5 c6 c7 => f c5 fun x => c (N8.mk c0 c1 c2 c3 c4 x c6 c7)) t) (fun d _ => Nat.rec (motive := fun _ => Y5 → (Y4 → (Y4 → RR) → RR) → (Y5 → RR) → RR) (fun t f c => N8.rec (motive := fun _ => RR) (fun c0 c1 c2 c3 c4 c5 c6 c7 => f c6 fun x => c (N8.mk c0 c1 c2 c3 c4 c5 x c7)) t) (fun d _ => Nat.rec (motive := fun _ => Y5 → (Y4 → (Y4 → RR) → RR) → (Y5 → RR) → RR) (fun t f c => N8.rec (motive := fun _ => RR) (fun c0 c1 c2 c3 c4 c5 c6 c7 => f c7 fun x => c (N8.mk c0 c1 c2 c3 c4 c5 c6 x)) t) (fun _ _ t _ c => c t) d) d) d) d) d) d) d) d
def sel5 (d : Nat) : Y6 → Y5 := Nat.rec (motive := fun _ => Y6 → Y5) (fun t => N8.rec (motive := fun _ => Y5) (fun c0 c1 c2 c3 c4 c5 c6 c7 => c0) t) (fun d _ => Nat.rec (motive := fun _ => Y6 → Y5) (fun t => N8.rec (motive := fun _ => Y5) (fun c0 c1 c2 c3 c4 c5 c6 c7 => c1) t) (fun d _ => Nat.rec (motive := fun _ => Y6 → Y5) (fun t => N8.rec (motive := fun _ => Y5) (fun c0 c1 c2 c3 c4 c5 c6 c7 => c2) t) (fun d _ => Nat.rec (motive := fun _ => Y6 → Y5) (fun t => N8.rec (motive := fun _ => Y5) (fun c0 c1 c2 c3 c4 c5 c6 c7 => c3) t) (fun d _ => Nat.rec (motive := fun _ => Y6 → Y5) (fun t => N8.rec (motive := fun _ => Y5) (fun c0 c1 c2 c3 c4 c5 c6 c7 => c4) t) (fun d _ => Nat.rec (motive := fun _ => Y6 → Y5) (fun t => N8.rec (motive := fun _ => Y5) (fun c0 c1 c2 c3 c4 c5 c6 c7 => c5) t) (fun d _ => Nat.rec (motive := fun _ => Y6 → Y5) (fun t => N8.rec (motive := fun _ => Y5) (fun c0 c1 c2 c3 c4 c5 c6 c7 => c6) t) (fun d _ => Nat.rec (motive := fun _ => Y6 → Y5) (fun t => N8.rec (motive := fun _ => Y5) (fun c0 c1 c2 c3 c4 c5 c6 c7 => c7) t) (fun _ _ _ => (em 5 : Lv 5)) d) d) d) d) d) d) d) d
def upd5 (d : Nat) : Y6 → (Y5 → (Y5 → RR) → RR) → (Y6 → RR) → RR := Nat.rec (motive := fun _ => Y6 → (Y5 → (Y5 → RR) → RR) → (Y6 → RR) → RR) (fun t f c => N8.rec (motive := fun _ => RR) (fun c0 c1 c2 c3 c4 c5 c6 c7 => f c0 fun x => c (N8.mk x c1 c2 c3 c4 c5 c6 c7)) t) (fun d _ => Nat.rec (motive := fun _ => Y6 → (Y5 → (Y5 → RR) → RR) → (Y6 → RR) → RR) (fun t f c => N8.rec (motive := fun _ => RR) (fun c0 c1 c2 c3 c4 c5 c6 c7 => f c1 fun x => c (N8.mk c0 x c2 c3 c4 c5 c6 c7)) t) (fun d _ => Nat.rec (motive := fun _ => Y6 → (Y5 → (Y5 → RR) → RR) → (Y6 → RR) → RR) (fun t f c => N8.rec (motive := fun _ => RR) (fun c0 c1 c2 c3 c4 c5 c6 c7 => f c2 fun x => c (N8.mk c0 c1 x c3 c4 c5 c6 c7)) t) (fun d _ => Nat.rec (motive := fun _ => Y6 → (Y5 → (Y5 → RR) → RR) → (Y6 → RR) → RR) (fun t f c => N8.rec (motive := fun _ => RR) (fun c0 c1 c2 c3 c4 c5 c6 c7 => f c3 fun x => c (N8.mk c0 c1 c2 x c4 c5 c6 c7)) t) (fun d _ => Nat.rec (motive := fun _ => Y6 → (Y5 → (Y5 → RR) → RR) → (Y6 → RR) → RR) (fun t f c => N8.rec (motive := fun _ => RR) (fun c0 c1 c2 c3 c4 c5 c6 c7 => f c4 fun x => c (N8.mk c0 c1 c2 c3 x c5 c6 c7)) t) (fun d _ => Nat.rec (motive := fun _ => Y6 → (Y5 → (Y5 → RR) → RR) → (Y6 → RR) → RR) (fun t f c => N8.rec (motive := fun _ => RR) (fun c0 c1 c2 c3 c4 c5 c6 c7 => f c5 fun x => c (N8.mk c0 c1 c2 c3 c4 x c6 c7)) t) (fun d _ => Nat.rec (motive := fun _ => Y6 → (Y5 → (Y5 → RR) → RR) → (Y6 → RR) → RR) (fun t f c => N8.rec (motive := fun _ => RR) (fun c0 c1 c2 c3 c4 c5 c6 c7 => f c6 fun x => c (N8.mk c0 c1 c2 c3 c4 c5 x c7)) t) (fun d _ => Nat.rec (motive := fun _ => Y6 → (Y5 → (Y5 → RR) → RR) → (Y6 → RR) → RR) (fun t f c => N8.rec (motive := fun _ => RR) (fun c0 c1 c2 c3 c4 c5 c6 c7 => f c7 fun x => c (N8.mk c0 c1 c2 c3 c4 c5 c6 x)) t) (fun _ _ t _ c => c t) d) d) d) d) d) d) d) d
def fnd (t : Y6) (k : Nat) : Option Blk := lf0 (dv (dv (dv (dv (dv (dv k)))))) (sel0 (Nat.mod (dv (dv (dv (dv (dv k))))) 8) (sel1 (Nat.mod (dv (dv (dv (dv k)))) 8) (sel2 (Nat.mod (dv (dv (dv k))) 8) (sel3 (Nat.mod (dv (dv k)) 8) (sel4 (Nat.mod (dv k) 8) (sel5 (Nat.mod k 8) t))))))
theorem fnd_eq : fnd = find6 := rfl
def pt6 (x : Option Blk) (t : Y6) (k : Nat) (c : Y6 → RR) : RR :=
  upd5 (Nat.mod k 8) t (fun t c => upd4 (Nat.mod (dv k) 8) t (fun t c => upd3 (Nat.mod (dv (dv k)) 8) t (fun t c => upd2 (Nat.mod (dv (dv (dv k))) 8) t (fun t c => upd1 (Nat.mod (dv (dv (dv (dv k)))) 8) t (fun t c => upd0 (Nat.mod (dv (dv (dv (dv (dv k))))) 8) t (fun _ c => c x) c) c) c) c) c) c
theorem pt6_eq (x : Option Blk) (t : Y6) (k : Nat) (c : Y6 → RR) : pt6 x t k c = put6 x t k c := rfl
def Ru (T : UT) (H : AH) : Prop := H.nx = T.nx ∧ Sub (find6 T.tr) H.bk
def upU (l : List (Nat × Option Blk)) : Y6 → (Y6 → RR) → RR :=
  List.rec (motive := fun _ => Y6 → (Y6 → RR) → RR) (fun t c => c t)
    (fun p _ ih t c => Prod.rec (motive := fun _ => RR) (fun b x => fN b fun b => Bool.rec (motive := fun _ => RR) none (pt6 x t b fun t => ih t c) (Nat.ble b 262143)) p) l
theorem upU_some (l : List (Nat × Option Blk)) : ∀ {t : Y6} {c : Y6 → RR} {r : AV × UT}, upU l t c = some r → ∃ t', c t' = some r ∧ find6 t' = upF l (find6 t) := by
  induction l with
  | nil => intro t c r h; exact ⟨t, h, rfl⟩
  | cons p l ih =>
    intro t c r h
    obtain ⟨b, x⟩ := p
    have h' : (fN b fun b => Bool.rec (motive := fun _ => RR) none (put6 x t b fun t => upU l t c) (Nat.ble b 262143)) = some r := h
    rw [fN_eq] at h'
    cases hb : Nat.ble b 262143 with
    | false => rw [hb] at h'; cases h'
    | true =>
      rw [hb] at h'
      have h2 : (put6 x t b fun t => upU l t c) = some r := h'
      have h2 : upU l (putL x 6 t b) c = some r := (put6_eq (R := RR) x t b (fun t => upU l t c)).symm.trans h2
      obtain ⟨t', h3, h4⟩ := ih h2
      refine ⟨t', h3, ?_⟩
      rw [h4]
      have hlt : b < 8 ^ 6 := by rw [nble] at hb; have := of_decide_eq_true hb; omega
      have : find6 (putL x 6 t b) = fun i => if i = b then x else find6 t i := by
        funext i
        exact getL_put x 6 t b hlt i
      rw [this]; rfl
def exU (p : Bk → Nat → Option Pl) : MS UT AV := fun T => UT.rec (motive := fun _ => Option (AV × UT)) (fun nx tr => Option.rec (motive := fun _ => Option (AV × UT)) none
  (fun q => Pl.rec (motive := fun _ => Option (AV × UT)) (fun v up dn => upU up tr fun tr => fN (Nat.add nx dn) fun nx => fV v fun v => some (v, ⟨nx, tr⟩)) q) (p (fnd tr) nx)) T
theorem exU_sm {p : Bk → Nat → Option Pl} (hp : Mn p) : Sm Ru (exU p) (exA p) := by
  intro T H a T' r h
  obtain ⟨nx, tr⟩ := T
  obtain ⟨r1, r2⟩ := r
  simp only at r1 r2
  simp only [exA]
  cases hq : p (find6 tr) nx with
  | none => simp only [exU, fnd_eq, hq] at h; cases h
  | some q =>
    have h3 := hp _ _ _ _ r2 hq
    obtain ⟨v, up, dn⟩ := q
    simp only [exU, fnd_eq, hq] at h
    obtain ⟨t', h1, h2⟩ := upU_some up h
    simp only [fN_eq, fV_eq, Option.some.injEq, Prod.mk.injEq] at h1
    obtain ⟨rfl, rfl⟩ := h1
    rw [r1, h3]
    refine ⟨_, rfl, rfl, ?_⟩
    simp only [h2]
    exact upF_sub _ r2
def rdU (p : Bk → Option AV) : MS UT AV := fun T => UT.rec (motive := fun _ => Option (AV × UT)) (fun nx tr => Option.rec (motive := fun _ => Option (AV × UT)) none (fun v => fV v fun v => some (v, ⟨nx, tr⟩)) (p (fnd tr))) T
def rdV (p : Bk → Option AV) : MS UT AV := fun T => UT.rec (motive := fun _ => Option (AV × UT)) (fun nx tr => Option.rec (motive := fun _ => Option (AV × UT)) none (fun v => some (v, ⟨nx, tr⟩)) (p (fnd tr))) T
theorem rdU_eq (p : Bk → Option AV) : rdU p = rdV p := by
  funext T; obtain ⟨nx, tr⟩ := T
  show Option.rec (motive := fun _ => Option (AV × UT)) none (fun v => fV v fun v => some (v, (⟨nx, tr⟩ : UT))) (p (find6 tr)) = Option.rec (motive := fun _ => Option (AV × UT)) none (fun v => some (v, (⟨nx, tr⟩ : UT))) (p (find6 tr))
  simp only [fV_eq]
theorem rdV_sm {p : Bk → Option AV} (hp : MnR p) : Sm Ru (rdV p) (rdA p) := by
  intro T H a T' r h
  obtain ⟨nx, tr⟩ := T
  cases hq : p (find6 tr) with
  | none => simp only [rdV, fnd_eq, hq] at h; cases h
  | some v =>
    simp only [rdV, fnd_eq, hq, Option.some.injEq, Prod.mk.injEq] at h
    obtain ⟨rfl, rfl⟩ := h
    refine ⟨H, ?_, r⟩
    simp only [rdA, hp _ _ _ r.2 hq]; rfl
theorem rdV_st (p : Bk → Option AV) : St (rdV p) := by
  intro T a T' h
  obtain ⟨nx, tr⟩ := T
  cases hq : p (find6 tr) with
  | none => simp only [rdV, fnd_eq, hq] at h; cases h
  | some v => simp only [rdV, fnd_eq, hq, Option.some.injEq, Prod.mk.injEq] at h; exact h.2.symm

-- whole numbers
def kcode (k : IntKind) : Nat := IntKind.rec (motive := fun _ => Nat) 0 1 2 3 4 5 6 7 k
theorem kcode_eq (a b : IntKind) : Nat.beq (kcode a) (kcode b) = decide (a = b) := by cases a <;> cases b <;> rfl
def wrapG (k : IntKind) (n : Int) : Int := IntKind.rec (motive := fun _ => Int → Int) (fun n => sgn 256 (wrapU 256 n)) (fun n => sgn 65536 (wrapU 65536 n)) (fun n => sgn 4294967296 (wrapU 4294967296 n)) (fun n => sgn 18446744073709551616 (wrapU 18446744073709551616 n))
  (fun n => .ofNat (wrapU 256 n)) (fun n => .ofNat (wrapU 65536 n)) (fun n => .ofNat (wrapU 4294967296 n)) (fun n => .ofNat (wrapU 18446744073709551616 n)) k n
theorem wrapG_eq (k : IntKind) (n : Int) : wrapG k n = k.wrap n := by rw [← wrapF_eq]; cases k <;> rfl
def onInt {R : Type} (x : AV) (f : IntKind → Int → R) (d : R) : R := match x with
  | .int k n => f k n
  | _ => d
def vU (v : Option AV) : MS UT AV := fun T => match v with
  | none => none
  | some v => fV v fun v => some (v, T)
theorem vU_eq (v : Option AV) : vU v = need v ret := by
  funext T; cases v <;> simp [vU, need, fail, ret, fV_eq]
theorem vU_sm (v : Option AV) : Sm Ru (vU v) (need v ret : M AV) := by rw [vU_eq]; exact Sm.need fun _ => Sm.ret _
theorem bin_slow (op : BinOp) (x y : AV) : Sm Ru (vU (binF op x y)) (bin op x y : M AV) := by
  unfold bin; rw [← binF_eq]; exact vU_sm _
/-- A step on two whole numbers of one kind that gives one of that kind. -/
def arU (op : BinOp) (g : IntKind → Int → Int → Int) (x y : AV) : MS UT AV := fun T => onInt x (fun k a => onInt y (fun j b => Bool.rec (motive := fun _ => Option (AV × UT)) none (fI (g k a b) fun n => some (.int k n, T)) (Nat.beq (kcode k) (kcode j))) none) (vU (binF op x y) T)
def cmU (op : BinOp) (g : Int → Int → Bool) (x y : AV) : MS UT AV := fun T => onInt x (fun k a => onInt y (fun j b => Bool.rec (motive := fun _ => Option (AV × UT)) none (Bool.rec (motive := fun _ => Option (AV × UT)) (some (.bool false, T)) (some (.bool true, T)) (g a b)) (Nat.beq (kcode k) (kcode j))) none) (vU (binF op x y) T)
theorem arU_sm {g : IntKind → Int → Int → Int} {op : BinOp} (h : ∀ k a j b, binA op (.int k a) (.int j b) = if k = j then some (.int k (g k a b)) else none) (x y : AV) : Sm Ru (arU op g x y) (bin op x y : M AV) := by
  intro T H a T' r e
  unfold arU onInt at e
  split at e
  · split at e
    · rename_i k m _ j n
      have e : Bool.rec (motive := fun _ => Option (AV × UT)) none (fI (g k m n) fun n => some (.int k n, T)) (Nat.beq (kcode k) (kcode j)) = some (a, T') := e
      rw [kcode_eq] at e
      by_cases hk : k = j
      · rw [decide_eq_true hk] at e
        simp only [fI_eq, Option.some.injEq, Prod.mk.injEq] at e
        obtain ⟨rfl, rfl⟩ := e
        refine ⟨H, ?_, r⟩
        simp only [bin, h, if_pos hk, need, ret]
      · rw [decide_eq_false hk] at e; cases e
    · cases e
  · exact bin_slow _ _ _ T H a T' r e
theorem cmU_sm {g : Int → Int → Bool} {op : BinOp} (h : ∀ k a j b, binA op (.int k a) (.int j b) = if k = j then some (.bool (g a b)) else none) (x y : AV) : Sm Ru (cmU op g x y) (bin op x y : M AV) := by
  intro T H a T' r e
  unfold cmU onInt at e
  split at e
  · split at e
    · rename_i k m _ j n
      have e : Bool.rec (motive := fun _ => Option (AV × UT)) none (Bool.rec (motive := fun _ => Option (AV × UT)) (some (.bool false, T)) (some (.bool true, T)) (g m n)) (Nat.beq (kcode k) (kcode j)) = some (a, T') := e
      rw [kcode_eq] at e
      by_cases hk : k = j
      · rw [decide_eq_true hk] at e
        have : some (AV.bool (g m n), T) = some (a, T') := by
          rw [← e]; cases g m n <;> rfl
        simp only [Option.some.injEq, Prod.mk.injEq] at this
        obtain ⟨rfl, rfl⟩ := this
        refine ⟨H, ?_, r⟩
        simp only [bin, h, if_pos hk, need, ret]
      · rw [decide_eq_false hk] at e; cases e
    · cases e
  · exact bin_slow _ _ _ T H a T' r e

def binU (op : BinOp) : AV → AV → MS UT AV := BinOp.rec (motive := fun _ => AV → AV → MS UT AV)
  (arU .add fun k a b => wrapG k (Int.add a b))
  (arU .sub fun k a b => wrapG k (Int.sub a b))
  (arU .mul fun k a b => wrapG k (Int.mul a b))
  (fun x y => vU (binF .quo x y))
  (fun x y => vU (binF .rem x y))
  (arU .and fun k a b => wrapG k (.ofNat (Nat.land (wrapU (modN k) a) (wrapU (modN k) b))))
  (arU .or fun k a b => wrapG k (.ofNat (Nat.lor (wrapU (modN k) a) (wrapU (modN k) b))))
  (fun x y => vU (binF .xor x y))
  (fun x y => vU (binF .shl x y))
  (fun x y => vU (binF .shr x y))
  (fun x y => vU (binF .andNot x y))
  (fun x y => vU (binF .eql x y))
  (fun x y => vU (binF .neq x y))
  (cmU .lss ilt)
  (cmU .leq fun a b => not (ilt b a))
  (cmU .gtr fun a b => ilt b a)
  (cmU .geq fun a b => not (ilt a b)) op
theorem binU_sm (op : BinOp) (x y : AV) : Sm Ru (binU op x y) (bin op x y : M AV) := by
  cases op
  case add => exact arU_sm (fun k a j b => by simp only [binA, intA, wrapG_eq]; rfl) x y
  case sub => exact arU_sm (fun k a j b => by simp only [binA, intA, wrapG_eq]; rfl) x y
  case mul => exact arU_sm (fun k a j b => by simp only [binA, intA, wrapG_eq]; rfl) x y
  case lss => exact cmU_sm (fun k a j b => by simp only [binA, intA, ilt_eq]) x y
  case gtr => exact cmU_sm (fun k a j b => by simp only [binA, intA, ilt_eq]) x y
  case leq => exact cmU_sm (fun k a j b => by
    have hh : (decide (a ≤ b)) = (!(decide (b < a))) := by by_cases h : b < a <;> simp [h] <;> omega
    simp only [binA, intA, ilt_eq, hh]) x y
  case geq => exact cmU_sm (fun k a j b => by
    have hh : (decide (a ≥ b)) = (!(decide (a < b))) := by by_cases h : a < b <;> simp [h] <;> omega
    simp only [binA, intA, ilt_eq, hh]) x y
  case and => exact arU_sm (fun k a j b => by
    have := intF_eq .and k a b
    simp only [intF] at this
    simp only [binA, ← this, wrapF_eq, wrapG_eq]) x y
  case or => exact arU_sm (fun k a j b => by
    have := intF_eq .or k a b
    simp only [intF] at this
    simp only [binA, ← this, wrapF_eq, wrapG_eq]) x y
  all_goals
    show Sm Ru (vU _) (need (binA _ x y) ret)
    rw [← binF_eq]
    exact vU_sm _
def eqU (tb tp ts tf ti : Bool) (op : BinOp) (a b : AV) : MS UT AV := match op with
  | .eql => fun T => onInt a (fun k x => onInt b (fun j y => Bool.rec (motive := fun _ => Option (AV × UT)) none (Bool.rec (motive := fun _ => Option (AV × UT)) (some (.bool false, T)) (some (.bool true, T)) (ieq x y)) (Nat.beq (kcode k) (kcode j))) none) (vU (eqXP tb tp ts tf ti .eql a b) T)
  | .neq => fun T => onInt a (fun k x => onInt b (fun j y => Bool.rec (motive := fun _ => Option (AV × UT)) none (Bool.rec (motive := fun _ => Option (AV × UT)) (some (.bool true, T)) (some (.bool false, T)) (ieq x y)) (Nat.beq (kcode k) (kcode j))) none) (vU (eqXP tb tp ts tf ti .neq a b) T)
  | op => vU (eqXP tb tp ts tf ti op a b)
theorem eqXslow (tb tp ts tf ti : Bool) (op : BinOp) (x y : AV) : Sm Ru (vU (eqXP tb tp ts tf ti op x y)) (eqX tb tp ts tf ti op x y) := by
  unfold eqXP eqX bin
  rw [← binF_eq]
  cases eqXt tb tp ts tf ti x with
  | true => exact vU_sm _
  | false => exact vU_sm none
theorem eqU_sm (tb tp ts tf ti : Bool) (op : BinOp) (x y : AV) : Sm Ru (eqU tb tp ts tf ti op x y) (eqX tb tp ts tf ti op x y) := by
  cases op
  case eql =>
    intro T H a T' r e
    simp only [eqU, onInt] at e
    split at e
    · split at e
      · rename_i k m _ j n
        rw [kcode_eq] at e
        by_cases hk : k = j
        · rw [decide_eq_true hk] at e
          have : some (AV.bool (ieq m n), T) = some (a, T') := by rw [← e]; cases ieq m n <;> rfl
          simp only [Option.some.injEq, Prod.mk.injEq] at this
          obtain ⟨rfl, rfl⟩ := this
          refine ⟨H, ?_, r⟩
          simp only [eqX, eqXt, if_true, bin, binA, if_pos hk, intA, need, ret, ieq_eq]; rfl
        · rw [decide_eq_false hk] at e; cases e
      · cases e
    · exact eqXslow _ _ _ _ _ _ _ _ T H a T' r e
  case neq =>
    intro T H a T' r e
    simp only [eqU, onInt] at e
    split at e
    · split at e
      · rename_i k m _ j n
        rw [kcode_eq] at e
        by_cases hk : k = j
        · rw [decide_eq_true hk] at e
          have : some (AV.bool (!(ieq m n)), T) = some (a, T') := by rw [← e]; cases ieq m n <;> rfl
          simp only [Option.some.injEq, Prod.mk.injEq] at this
          obtain ⟨rfl, rfl⟩ := this
          refine ⟨H, ?_, r⟩
          have hb : (m != n) = !(decide (m = n)) := by by_cases h : m = n <;> simp [h]
          simp only [eqX, eqXt, if_true, bin, binA, if_pos hk, intA, need, ieq_eq, hb]; rfl
        · rw [decide_eq_false hk] at e; cases e
      · cases e
    · exact eqXslow _ _ _ _ _ _ _ _ T H a T' r e
  all_goals exact eqXslow _ _ _ _ _ _ _ _
def onSl {R : Type} (x : AV) (f : Nat → Nat → Nat → R) (d : R) : R := match x with
  | .sl (some (b, o)) n _ => f b o n
  | _ => d
def idxSU (e : Nat) (x i : AV) : MS UT AV := fun T => onSl x (fun b o len => onInt i (fun _ n => Int.rec (motive := fun _ => Option (AV × UT)) (fun n => Bool.rec (motive := fun _ => Option (AV × UT)) none (fN (Nat.add o (Nat.mul n e)) fun o => some (.ptr (some (b, o)), T)) (Nat.ble (Nat.succ n) len)) (fun _ => none) n) none) none
theorem idxSU_sm (e : Nat) (x i : AV) : Sm Ru (idxSU e x i) (idxS e x i : M AV) := by
  intro T H a T' r h
  unfold idxSU onSl onInt at h
  split at h
  · split at h
    · rename_i b o n c _ k m
      cases m with
      | ofNat m =>
        have h : Bool.rec (motive := fun _ => Option (AV × UT)) none (fN (Nat.add o (Nat.mul m e)) fun o => some (.ptr (some (b, o)), T)) (Nat.ble (Nat.succ m) n) = some (a, T') := h
        cases hb : Nat.ble (Nat.succ m) n with
        | false => rw [hb] at h; cases h
        | true =>
          rw [hb] at h
          simp only [fN_eq, Option.some.injEq, Prod.mk.injEq] at h
          obtain ⟨rfl, rfl⟩ := h
          refine ⟨H, ?_, r⟩
          simp only [idxS, inRange_ofNat]
          rw [if_pos (show Nat.blt m n = true from hb)]; rfl
      | negSucc m => cases h
    · cases h
  · cases h
def cvU (k : IntKind) (x : AV) : MS UT AV := fun T => onInt x (fun _ n => fI (wrapG k n) fun n => some (.int k n, T)) none
theorem cvU_sm (k : IntKind) (x : AV) : Sm Ru (cvU k x) (cvI k x : M AV) := by
  intro T H a T' r h
  unfold cvU onInt at h
  split at h
  · simp only [fI_eq, Option.some.injEq, Prod.mk.injEq] at h
    obtain ⟨rfl, rfl⟩ := h
    exact ⟨H, by simp only [cvI, wrapG_eq]; rfl, r⟩
  · cases h
def cksU : List (Option (MS UT AV × AV)) → MS UT Unit
  | [] => ret ()
  | none :: l => cksU l
  | some (m, v) :: l => fun T => match m T with
    | some (u, _) => bif avEq u v then cksU l T else none
    | none => none
theorem cksU_sm : ∀ {l : List (Option (MS UT AV × AV))} {l' : List (Option (M AV × AV))}, LR Ru l l' → Sm Ru (cksU l) (cks l')
  | _, _, .nil => Sm.ret _
  | _, _, .none h => by
    have := cksU_sm h
    intro T H a T' r e
    simpa [cks, bnd, ret] using this T H a T' r e
  | _, _, .some (m := m) (m' := m') (v := v) hs hs' hm h => by
    have ih := cksU_sm h
    intro T H a T' r e
    simp only [cksU] at e
    cases hu : m T with
    | none => simp [hu] at e
    | some p =>
      obtain ⟨u, T1⟩ := p
      simp only [hu] at e
      cases hq : avEq u v with
      | false => simp [hq] at e
      | true =>
        simp only [hq, cond_true] at e
        have h1 := hs _ _ _ hu
        subst h1
        obtain ⟨H1, h2, r1⟩ := hm _ _ _ _ r hu
        have h3 := hs' _ _ _ h2
        subst h3
        rw [avEq_of hq] at h2
        simp only [cks, bnd, chk, h2, if_true]
        exact ih _ _ a T' r e
/-- The machine over the wide tree. -/
def UHp : Hp UT where
  ld a := rdV (ldQ a)
  lda n a := rdV (ldaQ n a)
  st n a v := exU (stQ n a v)
  alP cs := exU (alPP cs)
  boxA v := exU (boxQ v)
  bsA z sz n ps := exU (bsQ z sz n ps)
  mkS e b z l c := exU (mkQ e b z l c)
  slS e x lo hi mx := rdU (slQ e x lo hi mx)
  app e b x y := exU (appQ e b x y)
  appZ e b z x y := exU (appZQ e b z x y)
  cpy e x y := exU (cpyQ e x y)
  clr z x := exU (clrP z x)
  cvSB x := exU (sbQ x)
  cvSR x := exU (srQ x)
  cvB x := rdV (cbQ x)
  cvR x := rdV (crP x)
  rngS x := exU (rnP x)
  nextS x := exU (nxP x)
  bin op x y := binU op x y
  eqX tb tp ts tf ti op a b := eqU tb tp ts tf ti op a b
  idxS e x i := idxSU e x i
  idxR l e x i := vU (idxRP l e x i)
  cvI k x := cvU k x
  ckg g m v r := match g with
    | some true => fun T => (match m T with
      | some (u, _) => bif avEq u v then r T else none
      | none => none)
    | _ => r
  fl n f := fun T => match T with
    | ⟨nx, tr⟩ => fN (Nat.add nx n) fun ny => f nx ⟨ny, tr⟩
  ro m := m
  hv m l := bnd m fun v => bnd (cksU l) fun _ => ret v
  mrg n0 ids G := bnK (exU fun _ _ => some ⟨undefA, mrgUp n0 G ids, 0⟩) fun _ => ret ()
theorem UHr : HpR Ru UHp AHp where
  ld a := by show Sm _ (rdV _) (ld a); rw [ld_eq, ldQ_eq]; exact rdV_sm (ldP_mn _)
  lda n a := by show Sm _ (rdV _) (lda n a); rw [lda_eq, ldaQ_eq]; exact rdV_sm (ldaP_mn _ _)
  st n a v := by show Sm _ (exU _) (st n a v); rw [st_eq, stQ_eq]; exact exU_sm (stP_mn _ _ _)
  alP cs := by show Sm Ru (exU (alPP cs)) (alP cs); rw [alP_eq]; exact exU_sm (still_mn fun _ _ _ => rfl)
  boxA v := by show Sm _ (exU _) (boxA v); rw [box_eq, boxQ_eq]; exact exU_sm (still_mn fun _ _ _ => rfl)
  bsA z sz n ps := by show Sm _ (exU _) (bsA z sz n ps); rw [bs_eq, bsQ_eq]; exact exU_sm (still_mn fun _ _ _ => rfl)
  mkS e b z l c := by show Sm _ (exU _) (mkS e b z l c); rw [mk_eq, mkQ_eq]; exact exU_sm (still_mn fun _ _ _ => rfl)
  slS e x lo hi mx := by show Sm _ (rdU _) (slS e x lo hi mx); rw [sl_eq, slQ_eq, rdU_eq]; exact rdV_sm (slP_mn _ _ _ _ _)
  app e b x y := by show Sm _ (exU _) (app e b x y); rw [app_eq, appQ_eq]; exact exU_sm (appP_mn _ _ _ _)
  appZ e b z x y := by show Sm _ (exU _) (appZ e b z x y); rw [appZ_eq, appZQ_eq]; exact exU_sm (appZP_mn _ _ _ _ _)
  cpy e x y := by show Sm _ (exU _) (cpy e x y); rw [cpy_eq, cpyQ_eq]; exact exU_sm (cpyP_mn _ _ _)
  clr z x := by show Sm _ (exU _) (clr z x); rw [clr_eq]; exact exU_sm (clrP_mn _ _)
  cvSB x := by show Sm _ (exU _) (cvSB x); rw [sb_eq, sbQ_eq]; exact exU_sm (still_mn fun _ _ _ => rfl)
  cvSR x := by show Sm _ (exU _) (cvSR x); rw [sr_eq, srQ_eq]; exact exU_sm (still_mn fun _ _ _ => rfl)
  cvB x := by show Sm _ (rdV _) (cvB x); rw [cb_eq, cbQ_eq]; exact rdV_sm (cbP_mn _)
  cvR x := by show Sm _ (rdV _) (cvR x); rw [cr_eq]; exact rdV_sm (crP_mn _)
  rngS x := by show Sm _ (exU _) (rngS x); rw [rn_eq]; exact exU_sm (still_mn fun _ _ _ => rfl)
  nextS x := by show Sm _ (exU _) (nextS x); rw [nx_eq]; exact exU_sm (nxP_mn _)
  bin := binU_sm
  eqX := eqU_sm
  idxS := idxSU_sm
  idxR l e x i := by show Sm _ (vU _) (idxR l e x i); rw [← idxRP_eq]; exact vU_sm _
  cvI := cvU_sm
  ckg g {m m' v r r'} hs hs' hm hr := by
    cases g with
    | none => exact hr
    | some b =>
      cases b with
      | false => exact hr
      | true =>
        intro T H a T' rl e
        show ∃ t', (ckm m' v r') _ = _ ∧ _
        simp only [UHp] at e
        cases hu : m T with
        | none => simp [hu] at e
        | some p =>
          obtain ⟨u, T1⟩ := p
          simp only [hu] at e
          cases hq : avEq u v with
          | false => simp [hq] at e
          | true =>
            simp only [hq, cond_true] at e
            have h1 := hs _ _ _ hu
            subst h1
            obtain ⟨H1, h2, r1⟩ := hm _ _ _ _ rl hu
            have h3 := hs' _ _ _ h2
            subst h3
            rw [avEq_of hq] at h2
            simp only [ckm, h2, if_true]
            exact hr _ _ a T' rl e
  fl n {f f'} h := by
    intro T H a T' rl e
    obtain ⟨nx, tr⟩ := T
    obtain ⟨r1, r2⟩ := rl
    simp only [UHp, fN_eq] at e
    simp only at r1
    show ∃ t', fl n f' H = _ ∧ _
    simp only [fl, r1]
    exact h nx ⟨nx.add n, tr⟩ ⟨nx + n, H.bk⟩ a T' ⟨rfl, r2⟩ e
  ro {m m'} hs hs' hm := by
    intro T H a T' rl e
    obtain ⟨H1, h2, r1⟩ := hm _ _ _ _ rl e
    have h1 := hs _ _ _ e
    subst h1
    have h3 := hs' _ _ _ h2
    subst h3
    exact ⟨_, by show ro m' _ = _; simp [ro, h2], r1⟩
  hv {m m' l l'} hm hl := Sm.bnd hm fun _ => Sm.bnd (cksU_sm hl) fun _ => Sm.ret _
  mrg n l G := by
    have h : (mrg n l G : M Unit) = bnd (exA fun _ _ => some ⟨undefA, mrgUp n G l, 0⟩) fun _ => ret () := by
      funext H
      simp only [bnd, exA, mrgUp_eq, ret]
      rfl
    show Sm Ru (bnK (exU fun _ _ => some ⟨undefA, mrgUp n G l, 0⟩) fun _ => ret ()) (mrg n l G)
    rw [h, bnK_eq]
    exact Sm.bnd (exU_sm (still_mn fun _ _ _ => rfl)) fun _ => Sm.ret _
  ldS a := rdV_st _
  ldaS n a := rdV_st _
  slSS a b c d e := by show St (rdU _); rw [rdU_eq]; exact rdV_st _
  cvBS a := rdV_st _
  cvRS a := rdV_st _
  roS m h := h
  ldS' := THr.ldS'
  ldaS' := THr.ldaS'
  slSS' := THr.slSS'
  cvBS' := THr.cvBS'
  cvRS' := THr.cvRS'
  roS' := THr.roS'
/-- Rounds of a loop, so many at most. -/
def loopU (m : Nat) (f : List AV → MS UT Out) : List AV → MS UT Out :=
  Nat.rec (motive := fun _ => List AV → MS UT Out) (fun _ => fail) (fun _ ih ws => bnK (f ws) fun o => Out.rec (motive := fun _ => MS UT Out) (fun ws => ih ws) (fun i ws => ret (.ext i ws)) (fun vs => ret (.ret vs)) o) m
theorem loopU_eq (m : Nat) (f : List AV → MS UT Out) : loopU m f = loopN m f := by
  induction m with
  | zero => funext ws; rfl
  | succ m ih =>
    funext ws
    show bnK (f ws) (fun o => Out.rec (motive := fun _ => MS UT Out) (fun ws => loopU m f ws) (fun i ws => ret (.ext i ws)) (fun vs => ret (.ret vs)) o) = _
    rw [ih, bnK_eq]
    show _ = bnd (f ws) _
    congr 1
    funext o
    cases o <;> rfl
abbrev Tb := (S : Type) → Nat → Hp S → KS S → LS S → List AV → MS S AV
def tn (m : Nat) (A B : Tb) : Tb := fun S f => Bool.rec (motive := fun _ => Hp S → KS S → LS S → List AV → MS S AV) (A S f) (B S f) (Nat.ble m f)
theorem Sm.tn {S T : Type} {R : S → T → Prop} {h : Hp S} {k : Hp T} {K : KS S} {K' : KS T} {L : LS S} {L' : LS T} {m f : Nat} {vs : List AV} {A B : Tb}
    (hA : Sm R (A S f h K L vs) (A T f k K' L' vs)) (hB : Sm R (B S f h K L vs) (B T f k K' L' vs)) : Sm R (tn m A B S f h K L vs) (Ab.tn m A B T f k K' L' vs) := by
  unfold Ab.tn; cases Nat.ble m f <;> assumption
theorem tn_call {K : KS AH} {L : LS AH} {m f : Nat} {vs : List AV} {A B : Tb} {H : AH} {r : AV × AH} {Z : Prop}
    (e : tn m A B AH f AHp K L vs H = some r) (a : A AH f AHp K L vs H = some r → Z) (b : B AH f AHp K L vs H = some r → Z) : Z := by
  unfold tn at e
  cases hc : Nat.ble m f with
  | false => rw [hc] at e; exact a e
  | true => rw [hc] at e; exact b e
def tl0 (n : Nat) (g : {S : Type} → Hp S → KS S → LS S → MS S AV) : Tb := fun S f h K L vs => Bool.rec (motive := fun _ => MS S AV) fail (q0 (g h K L) vs) (Nat.beq f n)
theorem Sm.tl0 {S T : Type} {R : S → T → Prop} {h : Hp S} {k : Hp T} {K : KS S} {K' : KS T} {L : LS S} {L' : LS T} {n f : Nat} {vs : List AV} {g : {S : Type} → Hp S → KS S → LS S → MS S AV}
    (hA : Sm R (g h K L) (g k K' L')) : Sm R (tl0 n g S f h K L vs) (Ab.tl0 n g T f k K' L' vs) := by
  unfold Ab.tl0; cases Nat.beq f n <;> first | exact Sm.fail | exact Sm.q0 hA vs
theorem tl0_call {Sx : Nat → Option (List AV → M AV)} {f : Nat} (hs : Sx f = none) {K : KS AH} {L : LS AH} {n : Nat} {vs : List AV} {g : {S : Type} → Hp S → KS S → LS S → MS S AV} {H : AH} {r : AV × AH} {C : Nat → List AV → Prop}
    (e : tl0 n g AH f AHp K L vs H = some r) (a : Sx n = none → g AHp K L H = some r → C n []) : C f vs := by
  unfold tl0 at e
  cases hc : Nat.beq f n with
  | false => rw [hc] at e; cases e
  | true =>
    rw [hc] at e
    have hf := Nat.eq_of_beq_eq_true hc
    subst hf
    cases vs with
    | nil => exact a hs e
    | cons _ _ => cases e
def tl1 (n : Nat) (g : {S : Type} → Hp S → KS S → LS S → AV → MS S AV) : Tb := fun S f h K L vs => Bool.rec (motive := fun _ => MS S AV) fail (q1 (g h K L) vs) (Nat.beq f n)
theorem Sm.tl1 {S T : Type} {R : S → T → Prop} {h : Hp S} {k : Hp T} {K : KS S} {K' : KS T} {L : LS S} {L' : LS T} {n f : Nat} {vs : List AV} {g : {S : Type} → Hp S → KS S → LS S → AV → MS S AV}
    (hA : ∀ a, Sm R (g h K L a) (g k K' L' a)) : Sm R (tl1 n g S f h K L vs) (Ab.tl1 n g T f k K' L' vs) := by
  unfold Ab.tl1; cases Nat.beq f n <;> first | exact Sm.fail | exact Sm.q1 hA vs
theorem tl1_call {Sx : Nat → Option (List AV → M AV)} {f : Nat} (hs : Sx f = none) {K : KS AH} {L : LS AH} {n : Nat} {vs : List AV} {g : {S : Type} → Hp S → KS S → LS S → AV → MS S AV} {H : AH} {r : AV × AH} {C : Nat → List AV → Prop}
    (e : tl1 n g AH f AHp K L vs H = some r) (a : Sx n = none → ∀ a, g AHp K L a H = some r → C n [a]) : C f vs := by
  unfold tl1 at e
  cases hc : Nat.beq f n with
  | false => rw [hc] at e; cases e
  | true =>
    rw [hc] at e
    have hf := Nat.eq_of_beq_eq_true hc
    subst hf
    cases vs with
    | nil => cases e
    | cons a0 vs =>
      cases vs with
      | nil => exact a hs _ e
      | cons _ _ => cases e
def tl2 (n : Nat) (g : {S : Type} → Hp S → KS S → LS S → AV → AV → MS S AV) : Tb := fun S f h K L vs => Bool.rec (motive := fun _ => MS S AV) fail (q2 (g h K L) vs) (Nat.beq f n)
theorem Sm.tl2 {S T : Type} {R : S → T → Prop} {h : Hp S} {k : Hp T} {K : KS S} {K' : KS T} {L : LS S} {L' : LS T} {n f : Nat} {vs : List AV} {g : {S : Type} → Hp S → KS S → LS S → AV → AV → MS S AV}
    (hA : ∀ a b, Sm R (g h K L a b) (g k K' L' a b)) : Sm R (tl2 n g S f h K L vs) (Ab.tl2 n g T f k K' L' vs) := by
  unfold Ab.tl2; cases Nat.beq f n <;> first | exact Sm.fail | exact Sm.q2 hA vs
theorem tl2_call {Sx : Nat → Option (List AV → M AV)} {f : Nat} (hs : Sx f = none) {K : KS AH} {L : LS AH} {n : Nat} {vs : List AV} {g : {S : Type} → Hp S → KS S → LS S → AV → AV → MS S AV} {H : AH} {r : AV × AH} {C : Nat → List AV → Prop}
    (e : tl2 n g AH f AHp K L vs H = some r) (a : Sx n = none → ∀ a b, g AHp K L a b H = some r → C n [a, b]) : C f vs := by
  unfold tl2 at e
  cases hc : Nat.beq f n with
  | false => rw [hc] at e; cases e
  | true =>
    rw [hc] at e
    have hf := Nat.eq_of_beq_eq_true hc
    subst hf
    cases vs with
    | nil => cases e
    | cons a0 vs =>
      cases vs with
      | nil => cases e
      | cons a1 vs =>
        cases vs with
        | nil => exact a hs _ _ e
        | cons _ _ => cases e
def tl3 (n : Nat) (g : {S : Type} → Hp S → KS S → LS S → AV → AV → AV → MS S AV) : Tb := fun S f h K L vs => Bool.rec (motive := fun _ => MS S AV) fail (q3 (g h K L) vs) (Nat.beq f n)
theorem Sm.tl3 {S T : Type} {R : S → T → Prop} {h : Hp S} {k : Hp T} {K : KS S} {K' : KS T} {L : LS S} {L' : LS T} {n f : Nat} {vs : List AV} {g : {S : Type} → Hp S → KS S → LS S → AV → AV → AV → MS S AV}
    (hA : ∀ a b c, Sm R (g h K L a b c) (g k K' L' a b c)) : Sm R (tl3 n g S f h K L vs) (Ab.tl3 n g T f k K' L' vs) := by
  unfold Ab.tl3; cases Nat.beq f n <;> first | exact Sm.fail | exact Sm.q3 hA vs
theorem tl3_call {Sx : Nat → Option (List AV → M AV)} {f : Nat} (hs : Sx f = none) {K : KS AH} {L : LS AH} {n : Nat} {vs : List AV} {g : {S : Type} → Hp S → KS S → LS S → AV → AV → AV → MS S AV} {H : AH} {r : AV × AH} {C : Nat → List AV → Prop}
    (e : tl3 n g AH f AHp K L vs H = some r) (a : Sx n = none → ∀ a b c, g AHp K L a b c H = some r → C n [a, b, c]) : C f vs := by
  unfold tl3 at e
  cases hc : Nat.beq f n with
  | false => rw [hc] at e; cases e
  | true =>
    rw [hc] at e
    have hf := Nat.eq_of_beq_eq_true hc
    subst hf
    cases vs with
    | nil => cases e
    | cons a0 vs =>
      cases vs with
      | nil => cases e
      | cons a1 vs =>
        cases vs with
        | nil => cases e
        | cons a2 vs =>
          cases vs with
          | nil => exact a hs _ _ _ e
          | cons _ _ => cases e
def tl4 (n : Nat) (g : {S : Type} → Hp S → KS S → LS S → AV → AV → AV → AV → MS S AV) : Tb := fun S f h K L vs => Bool.rec (motive := fun _ => MS S AV) fail (q4 (g h K L) vs) (Nat.beq f n)
theorem Sm.tl4 {S T : Type} {R : S → T → Prop} {h : Hp S} {k : Hp T} {K : KS S} {K' : KS T} {L : LS S} {L' : LS T} {n f : Nat} {vs : List AV} {g : {S : Type} → Hp S → KS S → LS S → AV → AV → AV → AV → MS S AV}
    (hA : ∀ a b c d, Sm R (g h K L a b c d) (g k K' L' a b c d)) : Sm R (tl4 n g S f h K L vs) (Ab.tl4 n g T f k K' L' vs) := by
  unfold Ab.tl4; cases Nat.beq f n <;> first | exact Sm.fail | exact Sm.q4 hA vs
theorem tl4_call {Sx : Nat → Option (List AV → M AV)} {f : Nat} (hs : Sx f = none) {K : KS AH} {L : LS AH} {n : Nat} {vs : List AV} {g : {S : Type} → Hp S → KS S → LS S → AV → AV → AV → AV → MS S AV} {H : AH} {r : AV × AH} {C : Nat → List AV → Prop}
    (e : tl4 n g AH f AHp K L vs H = some r) (a : Sx n = none → ∀ a b c d, g AHp K L a b c d H = some r → C n [a, b, c, d]) : C f vs := by
  unfold tl4 at e
  cases hc : Nat.beq f n with
  | false => rw [hc] at e; cases e
  | true =>
    rw [hc] at e
    have hf := Nat.eq_of_beq_eq_true hc
    subst hf
    cases vs with
    | nil => cases e
    | cons a0 vs =>
      cases vs with
      | nil => cases e
      | cons a1 vs =>
        cases vs with
        | nil => cases e
        | cons a2 vs =>
          cases vs with
          | nil => cases e
          | cons a3 vs =>
            cases vs with
            | nil => exact a hs _ _ _ _ e
            | cons _ _ => cases e
def tl5 (n : Nat) (g : {S : Type} → Hp S → KS S → LS S → AV → AV → AV → AV → AV → MS S AV) : Tb := fun S f h K L vs => Bool.rec (motive := fun _ => MS S AV) fail (q5 (g h K L) vs) (Nat.beq f n)
theorem Sm.tl5 {S T : Type} {R : S → T → Prop} {h : Hp S} {k : Hp T} {K : KS S} {K' : KS T} {L : LS S} {L' : LS T} {n f : Nat} {vs : List AV} {g : {S : Type} → Hp S → KS S → LS S → AV → AV → AV → AV → AV → MS S AV}
    (hA : ∀ a b c d e, Sm R (g h K L a b c d e) (g k K' L' a b c d e)) : Sm R (tl5 n g S f h K L vs) (Ab.tl5 n g T f k K' L' vs) := by
  unfold Ab.tl5; cases Nat.beq f n <;> first | exact Sm.fail | exact Sm.q5 hA vs
theorem tl5_call {Sx : Nat → Option (List AV → M AV)} {f : Nat} (hs : Sx f = none) {K : KS AH} {L : LS AH} {n : Nat} {vs : List AV} {g : {S : Type} → Hp S → KS S → LS S → AV → AV → AV → AV → AV → MS S AV} {H : AH} {r : AV × AH} {C : Nat → List AV → Prop}
    (e : tl5 n g AH f AHp K L vs H = some r) (a : Sx n = none → ∀ a b c d e, g AHp K L a b c d e H = some r → C n [a, b, c, d, e]) : C f vs := by
  unfold tl5 at e
  cases hc : Nat.beq f n with
  | false => rw [hc] at e; cases e
  | true =>
    rw [hc] at e
    have hf := Nat.eq_of_beq_eq_true hc
    subst hf
    cases vs with
    | nil => cases e
    | cons a0 vs =>
      cases vs with
      | nil => cases e
      | cons a1 vs =>
        cases vs with
        | nil => cases e
        | cons a2 vs =>
          cases vs with
          | nil => cases e
          | cons a3 vs =>
            cases vs with
            | nil => cases e
            | cons a4 vs =>
              cases vs with
              | nil => exact a hs _ _ _ _ _ e
              | cons _ _ => cases e
def tl6 (n : Nat) (g : {S : Type} → Hp S → KS S → LS S → AV → AV → AV → AV → AV → AV → MS S AV) : Tb := fun S f h K L vs => Bool.rec (motive := fun _ => MS S AV) fail (q6 (g h K L) vs) (Nat.beq f n)
theorem Sm.tl6 {S T : Type} {R : S → T → Prop} {h : Hp S} {k : Hp T} {K : KS S} {K' : KS T} {L : LS S} {L' : LS T} {n f : Nat} {vs : List AV} {g : {S : Type} → Hp S → KS S → LS S → AV → AV → AV → AV → AV → AV → MS S AV}
    (hA : ∀ a b c d e i, Sm R (g h K L a b c d e i) (g k K' L' a b c d e i)) : Sm R (tl6 n g S f h K L vs) (Ab.tl6 n g T f k K' L' vs) := by
  unfold Ab.tl6; cases Nat.beq f n <;> first | exact Sm.fail | exact Sm.q6 hA vs
theorem tl6_call {Sx : Nat → Option (List AV → M AV)} {f : Nat} (hs : Sx f = none) {K : KS AH} {L : LS AH} {n : Nat} {vs : List AV} {g : {S : Type} → Hp S → KS S → LS S → AV → AV → AV → AV → AV → AV → MS S AV} {H : AH} {r : AV × AH} {C : Nat → List AV → Prop}
    (e : tl6 n g AH f AHp K L vs H = some r) (a : Sx n = none → ∀ a b c d e i, g AHp K L a b c d e i H = some r → C n [a, b, c, d, e, i]) : C f vs := by
  unfold tl6 at e
  cases hc : Nat.beq f n with
  | false => rw [hc] at e; cases e
  | true =>
    rw [hc] at e
    have hf := Nat.eq_of_beq_eq_true hc
    subst hf
    cases vs with
    | nil => cases e
    | cons a0 vs =>
      cases vs with
      | nil => cases e
      | cons a1 vs =>
        cases vs with
        | nil => cases e
        | cons a2 vs =>
          cases vs with
          | nil => cases e
          | cons a3 vs =>
            cases vs with
            | nil => cases e
            | cons a4 vs =>
              cases vs with
              | nil => cases e
              | cons a5 vs =>
                cases vs with
                | nil => exact a hs _ _ _ _ _ _ e
                | cons _ _ => cases e
end
end Go.Ab
