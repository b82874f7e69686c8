/- The abstract machine: regions that draw their order. Definitions, and what may be exchanged. -/
import Derived.Test.YtchikbhlojpolaaGreatAb15
namespace Go.Ab
open Go Go.RowKit

inductive DCls where
  | pure | load | flt | heavy

/-- What a region's operation is, for the order: a slice of a slice reads its block's length here. -/
def dcls (P : Program) (o : Oper) : DCls :=
  match o.op with
  | .move _ | .assign _ | .pick .. | .build .. | .nilCheck _ | .binOp .. | .unOp .. | .makeFunc .. | .fieldAddr .. | .field .. | .indexAddr .. | .index .. | .extract .. => .pure
  | .slice .. => .load
  | .convert s d _ => match P.underlying s, P.underlying d with
    | some (.slice _), _ => .load
    | _, some (.slice _) => .heavy
    | _, _ => .pure
  | .load .. => .load
  | .call c => match c.callee with
    | .builtin .len | .builtin .cap | .builtin .min | .builtin .max => .pure
    | _ => .heavy
  | _ => .heavy
/-- May the operation's block be made at any time? Its cells, an element's size, what is handed on. -/
def evFlt (P : Program) (g : Look) (o : Oper) : Option (List AV × Nat × (Nat → AV)) :=
  match o.op with
  | .alloc e => (zeroOf P e).map fun z => (z.cells, 1, fun b => .ptr (some (b, 0)))
  | .box _ x => match opv g x with
    | some v => if v.cells.all AV.isCell then some (v.cells, 1, fun b => .ptr (some (b, 0))) else none
    | none => none
  | .buildSlice t n ps => match partsA g ps.toList with
    | some l => (sliceCells P t n l).map fun (cs, sz) => (cs, sz, fun b => .sl (some (b, 0)) n (some n))
    | none => none
  | _ => none

structure DS where
  g : Look
  G : Nat → Option Blk
  R : Nat → Option (M AV × AV)

/-- How a region is gone through: the order; which operations float; for each one the floating ones that it needs, and the loads that it must leave as they are. -/
structure Plan where
  order : List Nat
  flt : List Nat
  needs : Nat → List Nat
  keeps : Nat → List Nat

def Look.put (g : Look) (dst : Option Nat) (v : AV) : Look :=
  match dst with
  | some d => fun t => if t = d then some v else g t
  | none => g
open Classical in
/-- A reading: what leaves memory as it is. -/
noncomputable def ro (m : M AV) : M AV := fun H => match m H with | some (v, H') => if H' = H then some (v, H) else none | none => none
open Classical in
noncomputable def chk (m : M AV) (v : AV) : M Unit := fun H => if m H = some (v, H) then some ((), H) else none
noncomputable def chks (R : Nat → Option (M AV × AV)) : List Nat → M Unit
  | [] => ret ()
  | j :: l => bnd (match R j with | some (m, v) => chk m v | none => ret ()) fun _ => chks R l
def mrg (n0 : Nat) (ids : List Nat) (G : Nat → Option Blk) : M Unit := fun H =>
  some ((), { H with bk := fun b => if ids.any (fun i => b == n0 + i) then (match G b with | some x => some x | none => H.bk b) else H.bk b })

section
variable (P : Program) (K : Calls?) (ops : Array Oper) (pl : Plan) (n0 : Nat)
noncomputable def opM (i : Nat) (S : DS) : M AV :=
  match ops[i]? with
  | none => fail
  | some o =>
    if pl.flt.contains i then (match o.guard with | none => need (evFlt P S.g o) fun r => ret (r.2.2 (n0 + i)) | some _ => fail)
    else match dcls P o with
    | .pure => guarded (guardV ops S.g o) (evOp P K S.g o)
    | .load => guarded (guardV ops S.g o) (ro (evOp P K S.g o))
    | _ => bnd (mrg n0 (pl.needs i) S.G) fun _ => bnd (guarded (guardV ops S.g o) (evOp P K S.g o)) fun v => bnd (chks S.R (pl.keeps i)) fun _ => ret v
noncomputable def upd (i : Nat) (S : DS) (v : AV) : DS :=
  match ops[i]? with
  | none => S
  | some o =>
    if pl.flt.contains i then { S with g := S.g.put o.dst v, G := fun b => if b = n0 + i then (evFlt P S.g o).map fun r => .cells r.1 r.2.1 false true else S.G b }
    else match dcls P o with
    | .pure => { S with g := S.g.put o.dst v }
    | .load => { S with g := S.g.put o.dst v, R := fun j => if j = i then (if guardV ops S.g o = some true then some (ro (evOp P K S.g o), v) else none) else S.R j }
    | _ => { S with g := S.g.put o.dst v, G := fun b => if (pl.needs i).any (fun f => b == n0 + f) then none else S.G b }
noncomputable def dr {α : Type} : List Nat → (DS → M α) → DS → M α
  | [], k, S => k S
  | i :: l, k, S => bnd (opM P K ops pl n0 i S) fun v => dr l k (upd P K ops pl n0 i S v)
end

-- what an operation looks at
def looks (ops : Array Oper) (o : Oper) : List Nat :=
  (o.op.operands.toList.filterMap fun | .tmp t => some t | _ => none) ++ (match o.guard with | some (j, _) => ((ops[j]?).bind (·.dst)).toList | none => [])

theorem opv_congr {g g' : Look} {x : Operand} (h : ∀ t, x = .tmp t → g t = g' t) : opv g x = opv g' x := by
  cases x <;> first | rfl | exact h _ rfl
theorem opvs_congr {g g' : Look} : ∀ (l : List Operand), (∀ t, Operand.tmp t ∈ l → g t = g' t) → opvs g l = opvs g' l
  | [], _ => rfl
  | x :: l, h => by
    simp only [opvs]
    rw [opv_congr (x := x) (fun t e => h t (by simp [e])), opvs_congr l (fun t ht => h t (by simp [ht]))]
theorem partsA_congr {g g' : Look} : ∀ (l : List (Nat × Operand)), (∀ t, Operand.tmp t ∈ l.map (·.2) → g t = g' t) → partsA g l = partsA g' l
  | [], _ => rfl
  | (i, x) :: l, h => by
    simp only [partsA]
    rw [opv_congr (x := x) (fun t e => h t (by simp [e])), partsA_congr l (fun t ht => h t (by simp at ht ⊢; right; exact ht))]

section
variable {P : Program} {K : Calls?} {ops : Array Oper}
theorem mem_looks {o : Oper} {t : Nat} (h : Operand.tmp t ∈ o.op.operands.toList) : t ∈ looks ops o := by
  unfold looks
  exact List.mem_append.2 (.inl (List.mem_filterMap.2 ⟨_, h, rfl⟩))
theorem evOp_congr {g g' : Look} {o : Oper} (h : ∀ t, Operand.tmp t ∈ o.op.operands.toList → g t = g' t) : evOp P K g o = evOp P K g' o := by
  have hv : ∀ x, x ∈ o.op.operands.toList → opv g x = opv g' x := fun x hx => opv_congr fun t e => h t (e ▸ hx)
  obtain ⟨dst, op, ty, pos, aft, grd⟩ := o
  cases op
  case build t ps =>
    simp only [evOp]
    rw [partsA_congr ps.toList (fun t ht => h t (by simpa [Op.operands] using ht))]
  case buildSlice t n ps =>
    simp only [evOp]
    rw [partsA_congr ps.toList (fun t ht => h t (by simpa [Op.operands] using ht))]
  case makeFunc fn first caps =>
    cases fn <;> try rfl
    simp only [evOp]
    rw [opvs_congr caps.toList (fun t ht => h t (by simp [Op.operands] at ht ⊢; exact .inr ht))]
  case slice t x lo hi mx =>
    have ho : ∀ (y : Option Operand), (∀ z, y = some z → z ∈ (Op.slice t x lo hi mx).operands.toList) → opvo g y = opvo g' y := by
      intro y hy
      cases y with
      | none => rfl
      | some z => simp only [opvo]; rw [hv z (hy z rfl)]
    simp only [evOp]
    rw [hv x (by simp [Op.operands]), ho lo (fun z e => by subst e; simp [Op.operands]), ho hi (fun z e => by subst e; simp [Op.operands]), ho mx (fun z e => by subst e; simp [Op.operands])]
  case call c =>
    obtain ⟨cal, args, ats⟩ := c
    cases cal with
    | value f =>
      simp only [evOp]
      rw [hv f (by simp [Op.operands, Call.operands]), opvs_congr args.toList (fun t ht => h t (by simp [Op.operands, Call.operands] at ht ⊢; exact .inr ht))]
    | builtin b =>
      simp only [evOp]
      rw [opvs_congr args.toList (fun t ht => h t (by simp [Op.operands, Call.operands] at ht ⊢; exact ht))]
    | invoke r m => rfl
  case next it s =>
    cases s with
    | true => simp only [evOp]; rw [hv it (by simp [Op.operands])]
    | false => rfl
  all_goals first
    | rfl
    | (simp only [evOp]; rw [hv _ (by simp [Op.operands])]; done)
    | (simp only [evOp]; rw [hv _ (by simp [Op.operands]; first | exact .inl rfl | exact rfl), hv _ (by simp [Op.operands]; first | exact .inr rfl | exact .inr (.inr rfl))])
    | skip
  case pick c a b =>
    simp only [evOp]
    rw [hv c (by simp [Op.operands]), hv a (by simp [Op.operands]), hv b (by simp [Op.operands])]
  case store t x y => simp only [evOp]; rw [hv x (by simp [Op.operands]), hv y (by simp [Op.operands])]
  case binOp op t x y u => simp only [evOp]; rw [hv x (by simp [Op.operands]), hv y (by simp [Op.operands])]
  case makeSlice t x y => simp only [evOp]; rw [hv x (by simp [Op.operands]), hv y (by simp [Op.operands])]
  case indexAddr t x y => simp only [evOp]; rw [hv x (by simp [Op.operands]), hv y (by simp [Op.operands])]
  case index t x y => simp only [evOp]; rw [hv x (by simp [Op.operands]), hv y (by simp [Op.operands])]
theorem evFlt_congr {g g' : Look} {o : Oper} (h : ∀ t, Operand.tmp t ∈ o.op.operands.toList → g t = g' t) : evFlt P g o = evFlt P g' o := by
  obtain ⟨dst, op, ty, pos, aft, grd⟩ := o
  cases op <;> try rfl
  case box e x => simp only [evFlt]; rw [opv_congr (x := x) fun t e => h t (by simp [Op.operands, e])]
  case buildSlice t n ps => simp only [evFlt]; rw [partsA_congr ps.toList (fun t ht => h t (by simpa [Op.operands] using ht))]
theorem guard_congr {g g' : Look} {o : Oper} (h : ∀ t, t ∈ looks ops o → g t = g' t) : guardV ops g o = guardV ops g' o := by
  unfold guardV
  cases hg : o.guard with
  | none => rfl
  | some q =>
    obtain ⟨j, want⟩ := q
    simp only
    cases hd : (ops[j]?).bind (·.dst) with
    | none => rfl
    | some d => simp only; rw [h d (by unfold looks; rw [hg]; simp [hd])]

/-- What touches no memory. -/
def Indep (m : M AV) : Prop := ∃ r : Option AV, ∀ H, m H = r.map (·, H)
theorem pure_indep {g : Look} {o : Oper} (h : dcls P o = .pure) : Indep (evOp P K g o) := by
  have nd : ∀ {α : Type} (x : Option α) (f : α → M AV), (∀ a, Indep (f a)) → Indep (need x f) := by
    intro α x f hf
    cases x with
    | none => exact ⟨none, fun _ => rfl⟩
    | some a => exact hf a
  have rt : ∀ (v : AV), Indep (ret v) := fun v => ⟨some v, fun _ => rfl⟩
  have fl : Indep fail := ⟨none, fun _ => rfl⟩
  have it : ∀ (c : Prop) [Decidable c] (x y : M AV), Indep x → Indep y → Indep (if c then x else y) := by
    intro c _ x y hx hy
    by_cases hc : c
    · rw [if_pos hc]; exact hx
    · rw [if_neg hc]; exact hy
  have hpart : ∀ (agg : Bool) (sz : Nat) (cs : List AV) (off : Nat), Indep (partA agg sz cs off) := by
    intro agg sz cs off; unfold partA; exact it _ _ _ (rt _) (nd _ _ fun v => rt v)
  obtain ⟨dst, op, ty, pos, aft, grd⟩ := o
  cases op <;> simp only [dcls] at h <;> first | (cases h; done) | skip
  case move x => exact nd _ _ fun v => rt v
  case assign x => exact nd _ _ fun v => rt v
  case pick c a b =>
    refine nd _ _ fun v => ?_
    cases v <;> first | exact fl | skip
    exact it _ _ _ (nd _ _ fun v => rt v) (nd _ _ fun v => rt v)
  case build t ps =>
    refine nd _ _ fun l => ?_
    unfold evBuild
    refine nd _ _ fun z => ?_
    split
    · exact nd _ _ fun _ => nd _ _ fun _ => rt _
    · exact nd _ _ fun _ => nd _ _ fun _ => rt _
    · exact fl
  case nilCheck x =>
    refine nd _ _ fun v => ?_
    cases v <;> first | exact fl | exact rt _ | (rename_i a; cases a <;> first | exact fl | exact rt _)
  case binOp op t x y u => exact nd _ _ fun a => nd _ _ fun b => it _ _ _ (nd _ _ fun v => rt v) fl
  case unOp op t x => exact nd _ _ fun a => nd _ _ fun v => rt v
  case makeFunc fn first caps =>
    cases fn <;> first | exact fl | skip
    exact it _ _ _ (nd _ _ fun v => rt _) fl
  case fieldAddr s x f =>
    refine nd _ _ fun a => nd _ _ fun fd => nd _ _ fun n => it _ _ _ fl ?_
    cases a <;> first | exact fl | skip
    rename_i p; cases p <;> first | exact fl | exact rt _
  case field s x f =>
    refine nd _ _ fun a => nd _ _ fun fd => nd _ _ fun n => nd _ _ fun g => ?_
    cases a <;> first | exact fl | exact it _ _ _ (hpart _ _ _ _) fl
  case indexAddr t x i =>
    refine nd _ _ fun a => nd _ _ fun b => ?_
    split
    · refine nd _ _ fun sz => ?_
      cases a <;> first | exact fl | skip
      rename_i p _ _; cases p <;> first | exact fl | skip
      cases b <;> first | exact fl | exact it _ _ _ (rt _) fl
    · refine nd _ _ fun sz => ?_
      cases a <;> first | exact fl | skip
      rename_i p; cases p <;> first | exact fl | skip
      cases b <;> first | exact fl | exact it _ _ _ (rt _) fl
    · exact fl
  case index t x i =>
    refine nd _ _ fun a => nd _ _ fun b => ?_
    split
    · cases a <;> first | exact fl | skip
      cases b <;> first | exact fl | skip
      refine it _ _ _ ?_ fl
      split
      · exact rt _
      · exact fl
    · refine nd _ _ fun sz => nd _ _ fun g => ?_
      cases a <;> first | exact fl | skip
      cases b <;> first | exact fl | exact it _ _ _ (hpart _ _ _ _) fl
    · exact fl
  case extract t i =>
    refine nd _ _ fun a => ?_
    cases a <;> first | exact fl | exact nd _ _ fun v => rt v
  case convert s d x =>
    refine nd _ _ fun a => ?_
    have cv : (∀ e, P.underlying s ≠ some (.slice e)) → (∀ e, P.underlying d ≠ some (.slice e)) → Indep (evConv P s d a) := by
      intro h1 h2
      unfold evConv
      split
      · exact rt _
      · exact rt _
      · exact rt _
      · rename_i e _ _ he; exact absurd he (h2 _)
      · rename_i e he _ _ _; exact absurd he (h1 _)
      · exact fl
    split at h
    · cases h
    · cases h
    · rename_i h1 h2
      exact cv (fun e he => h1 e he) (fun e he => h2 e he)
  case call c =>
    obtain ⟨cal, args, ats⟩ := c
    cases cal with
    | value f => simp at h
    | invoke r m => simp at h
    | builtin b =>
      refine nd _ _ fun l => ?_
      unfold evBuiltin
      cases b <;> simp at h
      case len =>
        cases l with
        | nil => exact fl
        | cons x l =>
          cases l with
          | cons y l => exact fl
          | nil =>
            refine nd _ _ fun t => ?_
            split
            · cases x <;> first | exact fl | exact rt _
            · cases x <;> first | exact fl | exact rt _
            · exact rt _
            · split
              · exact rt _
              · exact fl
            · exact fl
      case cap =>
        cases l with
        | nil => exact fl
        | cons x l =>
          cases l with
          | cons y l => exact fl
          | nil =>
            refine nd _ _ fun t => ?_
            split
            · cases x <;> first | exact fl | skip
              rename_i _ _ c; cases c <;> first | exact fl | exact rt _
            · exact fl
      case max =>
        cases l with
        | nil => exact nd _ _ fun v => rt v
        | cons x l => cases l with
          | nil => exact nd _ _ fun v => rt v
          | cons y l => cases l <;> exact nd _ _ fun v => rt v
      case min =>
        cases l with
        | nil => exact nd _ _ fun v => rt v
        | cons x l => cases l with
          | nil => exact nd _ _ fun v => rt v
          | cons y l => cases l <;> exact nd _ _ fun v => rt v
end
end Go.Ab
