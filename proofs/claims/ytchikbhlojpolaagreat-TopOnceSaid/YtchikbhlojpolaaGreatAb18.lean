/- The abstract machine: regions that draw their order stand for the model's. -/
import Derived.Test.YtchikbhlojpolaaGreatAb17
namespace Go.Ab
open Go Go.RowKit

def PlanL.plan (q : PlanL) : Plan := { order := q.order, flt := q.flt, needs := fun i => q.needs.getD i [], keeps := fun i => q.keeps.getD i [] }
def PlanL.before (q : PlanL) (i : Nat) : List Nat := q.pre.getD i []

def pw (R : Nat → Nat → Bool) : List Nat → Bool
  | [] => true
  | a :: l => l.all (R a) && pw R l
def fits (ops : Array Oper) (op oi : Oper) : Bool :=
  (match op.dst with | some d => !(looks ops oi).contains d && oi.dst != some d | none => true) && (match oi.dst with | some d => !(looks ops op).contains d | none => true)
def pairOk (P : Program) (ops : Array Oper) (pl : Plan) (p i : Nat) : Bool :=
  match ops[p]?, ops[i]? with
  | some op, some oi =>
    fits ops op oi &&
    match clOf P pl p op, clOf P pl i oi with
    | .heavy, .heavy => false
    | .heavy, .load => false
    | .load, .heavy => (pl.keeps i).contains p
    | .flt, .heavy => !(pl.needs i).contains p
    | .heavy, .flt => !(pl.needs p).contains i
    | _, _ => true
  | _, _ => false
def edgesOk (ops : Array Oper) (order : List Nat) (i : Nat) : Bool :=
  match ops[i]? with
  | some o => o.after.toList.all fun e => !Region.binds .any e || (decide (order.idxOf e.on < order.idxOf i) && decide (e.on < ops.size))
  | none => false
def preOk (ops : Array Oper) (q : PlanL) (i : Nat) : Bool :=
  match ops[i]? with
  | some o => (q.before i).all fun p => o.after.toList.any fun e => Region.binds .any e && (e.on == p || (q.before e.on).contains p)
  | none => false
def planOk (P : Program) (ops : Array Oper) (q : PlanL) : Bool :=
  decide (q.order.length = ops.size) && q.order.all (fun i => decide (i < ops.size)) && (List.range ops.size).all (fun i => q.order.contains i) &&
  pw (fun a b => decide (q.order.idxOf a < q.order.idxOf b)) q.order &&
  (List.range ops.size).all (edgesOk ops q.order) && (List.range ops.size).all (preOk ops q) &&
  pw (fun p i => (q.before i).contains p || pairOk P ops q.plan p i) q.order

theorem pw_iff {R : Nat → Nat → Bool} : ∀ {l : List Nat}, pw R l = true → l.Pairwise fun a b => R a b = true
  | [], _ => .nil
  | a :: l, h => by
    simp only [pw, Bool.and_eq_true, List.all_eq_true] at h
    exact .cons h.1 (pw_iff h.2)

/-- What the region leaves in the environment. -/
def envOf (g : Look) : List Oper → Env
  | [] => []
  | o :: l => match o.dst with
    | some d => match g d with
      | some v => (d, v) :: envOf g l
      | none => envOf g l
    | none => envOf g l
noncomputable def evDraw (q : PlanL) (P : Program) (K : Calls?) (ops : Array Oper) (k : Env → M Out) (E : Env) : M Out := fun H =>
  if planOk P ops q then
    dr P K ops q.plan H.nx q.order (fun S => bnd (mrg H.nx q.flt S.G) fun _ => k (envOf S.g ops.toList ++ dropE (ops.toList.filterMap (·.dst)) E)) { g := E.get, G := fun _ => none, R := fun _ => none }
      (if q.flt.isEmpty then H else { H with nx := H.nx + ops.size })
  else none

section
variable {P : Program} {W0 : World} {G : Nat → Option Blk} {K : Calls?} {ops : Array Oper}

/-- A new block under a number that was kept for it. -/
theorem Rel.newAt {μ : Mu} {w w' : World} {H : AH} (h : Rel W0 μ w H) {b0 : Nat} (hfr : μ b0 = none) (hb0 : b0 < H.nx) {C : Array Value} {el : TypeId} (hw : New w w' (.cells C el))
    {cs : List AV} {es : Nat} {g : Bool} {μ' : Mu} (hμ : μ' = muSet μ b0 { blk := w.heap.size, sh := 0, ext := cs.length, top := C.size, es })
    (hc : cs.length ≤ C.size)
    (hv : ∀ (i : Nat) (x : AV), cs[i]? = some x → x.isCell = true ∧ ∃ v, C[i]? = some v ∧ VR μ' x v) :
    Rel W0 μ' w' { nx := H.nx, bk := fun i => if i = b0 then some (.cells cs es g true) else H.bk i } ∧ Le μ μ' := by
  have hle : Le μ μ' := hμ ▸ muSet_le hfr
  have hsz := h.below.size
  have hat : μ' b0 = some { blk := w.heap.size, sh := 0, ext := cs.length, top := C.size, es } := by simp [hμ, muSet]
  have hne : ∀ b l, μ' b = some l → b ≠ b0 → μ b = some l := fun b l hl hb => by simpa [hμ, muSet, hb] using hl
  refine ⟨⟨?_, ?_, ?_, ?_, ?_⟩, hle⟩
  · exact h.below.trans ⟨hw.os, hw.tape, hw.output, by rw [hw.size]; omega, fun k hk => hw.other k (by omega)⟩
  · intro b cs' es' g' own hb
    dsimp only at hb
    split at hb
    · rename_i e
      cases hb
      subst e
      refine ⟨_, hat, ⟨⟨C, el, (0, 0), hw.here, rfl, fun i x e => ?_, fun _ i _ => by simp⟩, rfl, rfl, by simpa using hc, by simpa using hsz⟩⟩
      simpa using hv i x e
    · obtain ⟨l, hl, hr⟩ := h.row _ _ _ _ _ hb
      refine ⟨l, hle _ _ hl, hr.same hle (hw.other _ (h.blk_lt hb hl))⟩
  · intro b s pos hb
    dsimp only at hb
    split at hb
    · cases hb
    · obtain ⟨l, hl, hr, h2, h3⟩ := h.iter _ _ _ hb
      exact ⟨l, hle _ _ hl, by rw [hw.other _ (h.blk_lt hb hl)]; exact hr, h2, h3⟩
  · intro b b' x y l m hbb hx hy hox hoy hl hm
    dsimp only at hx hy
    split at hx
    · rename_i e
      subst e
      split at hy
      · rename_i e2; exact absurd e2.symm hbb
      · rename_i e2
        rw [hat] at hl; cases hl
        have := h.blk_lt hy (hne _ _ hm e2)
        exact .inl (by dsimp only; omega)
    · rename_i e
      split at hy
      · rename_i e2
        subst e2
        rw [hat] at hm; cases hm
        have := h.blk_lt hx (hne _ _ hl e)
        exact .inl (by dsimp only; omega)
      · rename_i e2
        exact h.apart _ _ _ _ _ _ hbb hx hy hox hoy (hne _ _ hl e) (hne _ _ hm e2)
  · intro b hb
    dsimp only at hb
    simp only [hμ, muSet]
    rw [if_neg (by omega)]
    exact h.fresh b hb

/-- What makes one block, at whatever time: in the model. -/
theorem flt_run {μ : Mu} {w : World} {g : Look} {a : Act} {o : Oper} {cs : List AV} {es : Nat} {mk : Nat → AV} (hE : LookRel μ g a) (h : evFlt P g o = some (cs, es, mk)) :
    ∃ C el cv, (execOp a.eval o).run P w = .ok (.value cv) { w with heap := w.heap.push (.cells C el) } ∧ VRL μ cs C.toList ∧ cs.all AV.isCell = true ∧
      ∀ (μ' : Mu) (b : Nat) (l : Loc), μ' b = some l → l.blk = w.heap.size → l.sh = 0 → VR μ' (mk b) cv := by
  obtain ⟨dst, op, ty, pos, aft, grd⟩ := o
  cases op <;> simp only [evFlt] at h <;> first | (cases h; done) | skip
  case alloc e =>
    cases hz : zeroOf P e with
    | none => simp [hz] at h
    | some z =>
      simp only [hz, Option.map_some, Option.some.injEq, Prod.mk.injEq] at h
      obtain ⟨rfl, rfl, rfl⟩ := h
      obtain ⟨zv, k1, k2, k3, k4⟩ := zeroOf_spec (μ := μ) hz
      refine ⟨zv.cells, e, .pointer (some ⟨w.heap.size, 0, none⟩), by simp [execOp, Instr.alloc, k1, newVar, newRow], k4, k3, fun μ' b l h1 h2 h3 => ?_⟩
      have := VR.ptr (o := 0) h1
      rw [h2, h3] at this
      exact this
  case box e x =>
    cases hx : opv g x with
    | none => simp [hx] at h
    | some v =>
      simp only [hx] at h
      split at h
      · rename_i hall
        simp only [Option.some.injEq, Prod.mk.injEq] at h
        obtain ⟨rfl, rfl, rfl⟩ := h
        refine ⟨(a.eval x).cells, e, .pointer (some ⟨w.heap.size, 0, none⟩), by simp [execOp, Instr.box, newVar, newRow], (hE.opv _ _ hx).cells hall, hall, fun μ' b l h1 h2 h3 => ?_⟩
        have := VR.ptr (o := 0) h1
        rw [h2, h3] at this
        exact this
      · cases h
  case buildSlice t n ps =>
    cases hp : partsA g ps.toList with
    | none => simp [hp] at h
    | some l =>
      simp only [hp] at h
      cases hs : sliceCells P t n l with
      | none => simp [hs] at h
      | some q =>
        obtain ⟨xs, sz⟩ := q
        simp only [hs, Option.map_some, Option.some.injEq, Prod.mk.injEq] at h
        obtain ⟨rfl, rfl, rfl⟩ := h
        obtain ⟨q1, q2⟩ := parts_rel hE.opv _ _ hp
        obtain ⟨us, el, f1, f2, f3⟩ := sliceCells_run (w := w) (qs := ps.map fun (i, x) => (i, a.eval x)) hs (by simp [q1]) (by simpa using q2)
        refine ⟨us.toArray, el, .slice (some ⟨w.heap.size, 0, none⟩) n n, ?_, by simpa using f2, f3, fun μ' b l h1 h2 h3 => ?_⟩
        · simp only [execOp, Sem.run_bind]
          rw [f1]
          simp [newRow]
        · have := VR.slX (o := 0) h1 (Nat.le_refl n)
          rw [h2, h3] at this
          exact this

def joinG (A B : Nat → Option Blk) : Nat → Option Blk := fun b => match A b with | some x => some x | none => B b

theorem idx_split {R : Nat → Nat → Prop} {L1 L2 : List Nat} {i : Nat} (h : (L1 ++ i :: L2).Pairwise R) : ∀ p ∈ L1, R p i := by
  rw [List.pairwise_append] at h
  exact fun p hp => h.2.2 p hp i (by simp)

theorem fits_spec {op oi : Oper} (h : fits ops op oi = true) : (∀ d, op.dst = some d → d ∉ looks ops oi ∧ oi.dst ≠ some d) ∧ (∀ d, oi.dst = some d → d ∉ looks ops op) := by
  unfold fits at h
  rw [Bool.and_eq_true] at h
  refine ⟨fun d hd => ?_, fun d hd => ?_⟩
  · have := h.1
    simp only [hd, Bool.and_eq_true, Bool.not_eq_true', List.contains_eq_mem, decide_eq_false_iff_not, bne_iff_ne] at this
    exact this
  · have := h.2
    simp only [hd, Bool.not_eq_true', List.contains_eq_mem, decide_eq_false_iff_not] at this
    exact this

theorem pair_ind {pl : Plan} {p i : Nat} (h : pairOk P ops pl p i = true) (hne : p ≠ i) : ∃ op oi, Ind P ops pl p i op oi := by
  unfold pairOk at h
  cases hp : ops[p]? with
  | none => simp [hp] at h
  | some op =>
    cases hi : ops[i]? with
    | none => simp [hp, hi] at h
    | some oi =>
      simp only [hp, hi, Bool.and_eq_true] at h
      obtain ⟨h1, h2⟩ := h
      obtain ⟨f1, f2⟩ := fits_spec h1
      refine ⟨op, oi, hp, hi, hne, f1, f2, ?_, ?_, ?_, ?_⟩
      · rintro ⟨a, b | b⟩ <;> rw [a, b] at h2 <;> cases h2
      · intro a b; rw [a, b] at h2; simpa using h2
      · intro a b; rw [a, b] at h2; simpa using h2
      · intro a b; rw [a, b] at h2; simpa using h2

/-- Of several, one that nothing must precede may come first. -/
theorem dr_front {pl : Plan} {n0 : Nat} {α : Type} {k : DS → M α} {r : α × AH} {i : Nat} : ∀ (L1 : List Nat) {L2 : List Nat} {S : DS} {H : AH},
    (∀ p ∈ L1, pairOk P ops pl p i = true ∧ p ≠ i) → (L1 ++ i :: L2).Nodup → (∀ p ∈ L1, S.R p = none) → dr P K ops pl n0 (L1 ++ i :: L2) k S H = some r → dr P K ops pl n0 (i :: (L1 ++ L2)) k S H = some r
  | [], L2, S, H, _, _, _, he => he
  | p :: L1, L2, S, H, hp, hnd, hR, he => by
    simp only [List.cons_append] at he ⊢
    obtain ⟨op, oi, hind⟩ := pair_ind (hp p (by simp)).1 (hp p (by simp)).2
    refine swap hind (hR p (by simp)) ?_
    simp only [dr, bnd] at he
    cases ho : opM P K ops pl n0 p S H with
    | none => simp [ho] at he
    | some q =>
      obtain ⟨v, H1⟩ := q
      simp only [ho] at he
      have hR' : ∀ q ∈ L1, (upd P K ops pl n0 p S v).R q = none := by
        intro q hq
        rw [upd_eq hind.hp]
        have hne : q ≠ p := by
          intro e
          simp only [List.cons_append, List.nodup_cons] at hnd
          exact hnd.1 (by rw [← e]; exact List.mem_append.2 (.inl hq))
        have hu : updR P K ops pl p op S v q = S.R q := by
          unfold updR
          cases clOf P pl p op <;> first | rfl | exact if_neg hne
        exact hu.trans (hR q (by simp [hq]))
      have ih := dr_front L1 (L2 := L2) (fun q hq => hp q (by simp [hq])) (by simp only [List.cons_append, List.nodup_cons] at hnd; exact hnd.2) hR' he
      rw [show dr P K ops pl n0 (p :: i :: (L1 ++ L2)) k S H = bnd (opM P K ops pl n0 p S) (fun v => dr P K ops pl n0 (i :: (L1 ++ L2)) k (upd P K ops pl n0 p S v)) H from rfl]
      simp only [bnd, ho]
      exact ih

structure PlanOk (P : Program) (ops : Array Oper) (q : PlanL) : Prop where
  len : q.order.length = ops.size
  lt : ∀ i ∈ q.order, i < ops.size
  all : ∀ i, i < ops.size → i ∈ q.order
  idx : q.order.Pairwise fun a b => q.order.idxOf a < q.order.idxOf b
  edges : ∀ i o, ops[i]? = some o → ∀ e ∈ o.after.toList, Region.binds .any e = true → q.order.idxOf e.on < q.order.idxOf i ∧ e.on < ops.size
  pre : ∀ i o, ops[i]? = some o → ∀ p ∈ q.before i, ∃ e ∈ o.after.toList, Region.binds .any e = true ∧ (e.on = p ∨ p ∈ q.before e.on)
  pairs : q.order.Pairwise fun p i => p ∈ q.before i ∨ pairOk P ops q.plan p i = true
theorem planOk_spec {q : PlanL} (h : planOk P ops q = true) : PlanOk P ops q := by
  unfold planOk at h
  simp only [Bool.and_eq_true, List.all_eq_true, decide_eq_true_eq] at h
  obtain ⟨⟨⟨⟨⟨⟨h0, h1⟩, h2⟩, h3⟩, h4⟩, h5⟩, h6⟩ := h
  refine ⟨h0, h1, fun i hi => by have := h2 i (List.mem_range.2 hi); simpa using this, ?_, ?_, ?_, ?_⟩
  · exact (pw_iff h3).imp fun h => by simpa using h
  · intro i o ho e he hb
    have := h4 i (List.mem_range.2 (lt_of_get? ho))
    simp only [edgesOk, ho, List.all_eq_true] at this
    have := this e he
    simp only [hb, Bool.not_true, Bool.false_or, Bool.and_eq_true, decide_eq_true_eq] at this
    exact this
  · intro i o ho p hp
    have := h5 i (List.mem_range.2 (lt_of_get? ho))
    simp only [preOk, ho, List.all_eq_true, List.any_eq_true] at this
    obtain ⟨e, he, h⟩ := this p hp
    simp only [Bool.and_eq_true, Bool.or_eq_true, beq_iff_eq] at h
    exact ⟨e, he, h.1, by simpa using h.2⟩
  · exact (pw_iff h6).imp fun h => by simpa using h

/-- What has been done so far, and what is left. -/
structure Left (ops : Array Oper) (q : PlanL) (L : List Nat) (listed : Array Bool) : Prop where
  sub : L.Sublist q.order
  size : listed.size = ops.size
  mem : ∀ i, i < ops.size → (listed.getD i true = false ↔ i ∈ L)
  down : ∀ i o, ops[i]? = some o → i ∉ L → ∀ e ∈ o.after.toList, Region.binds .any e = true → e.on ∉ L

theorem Left.free {q : PlanL} (hq : PlanOk P ops q) {L : List Nat} {listed : Array Bool} (h : Left ops q L listed) : ∀ (m i : Nat) (o : Oper), q.order.idxOf i < m → ops[i]? = some o →
    (∀ e ∈ o.after.toList, Region.binds .any e = true → e.on ∉ L) → ∀ p ∈ q.before i, p ∉ L
  | 0, _, _, hm, _, _ => by omega
  | m + 1, i, o, hm, ho, hr => by
    intro p hp
    obtain ⟨e, he, hb, hor⟩ := hq.pre i o ho p hp
    have h1 := hr e he hb
    rcases hor with rfl | hor
    · exact h1
    · obtain ⟨hi, hlt⟩ := hq.edges i o ho e he hb
      obtain ⟨o2, ho2⟩ : ∃ o2, ops[e.on]? = some o2 := ⟨ops[e.on], by simp [hlt]⟩
      exact h.free hq m e.on o2 (by omega) ho2 (h.down e.on o2 ho2 h1) p hor

theorem ready_iff {q : PlanL} {L : List Nat} {listed : Array Bool} (hq : PlanOk P ops q) (h : Left ops q L listed) (i : Nat) : i ∈ Region.ready .any ops listed ↔ i ∈ L ∧ ∃ o, ops[i]? = some o ∧ ∀ e ∈ o.after.toList, Region.binds .any e = true → e.on ∉ L := by
  unfold Region.ready
  rw [List.mem_filter, List.mem_range]
  constructor
  · rintro ⟨hlt, hc⟩
    simp only [Bool.and_eq_true, Bool.not_eq_true'] at hc
    refine ⟨(h.mem i hlt).1 hc.1, ops[i], by simp [hlt], fun e he hb => ?_⟩
    have := hc.2
    simp only [Array.getElem?_eq_getElem hlt, Option.map_some, Option.getD_some, Array.all_eq_true'] at this
    have h2 := this e (by simpa using he)
    simp only [hb, Bool.not_true, Bool.false_or] at h2
    intro hL
    have hlt2 := hq.lt _ (h.sub.subset hL)
    have := (h.mem _ hlt2).2 hL
    rw [Array.getD_eq_getD_getElem?] at this h2
    have hs : e.on < listed.size := by rw [h.size]; exact hlt2
    simp [hs] at this h2
    rw [this] at h2; cases h2
  · rintro ⟨hL, o, ho, hall⟩
    have hlt := hq.lt _ (h.sub.subset hL)
    refine ⟨hlt, ?_⟩
    simp only [Bool.and_eq_true, Bool.not_eq_true']
    refine ⟨(h.mem i hlt).2 hL, ?_⟩
    rw [ho]
    simp only [Option.map_some, Option.getD_some, Array.all_eq_true']
    intro e he
    by_cases hb : Region.binds .any e = true
    · simp only [hb, Bool.not_true, Bool.false_or]
      have hlt2 := (hq.edges i o ho e (by simpa using he) hb).2
      have h2 := hall e (by simpa using he) hb
      have h3 : ¬ (listed.getD e.on true = false) := fun e1 => h2 ((h.mem _ hlt2).1 e1)
      have hs : e.on < listed.size := by rw [h.size]; exact hlt2
      rw [Array.getD_eq_getD_getElem?] at h3 ⊢
      simp [hs] at h3 ⊢
      exact h3
    · simp [hb]
end
end Go.Ab
