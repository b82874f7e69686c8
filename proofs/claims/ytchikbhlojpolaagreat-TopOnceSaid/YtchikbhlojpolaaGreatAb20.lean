/- The abstract machine without fuel: what a function comes to, as an equation. -/
import Derived.Test.YtchikbhlojpolaaGreatAb19
namespace Go.Ab
open Go Go.RowKit

/-- A sequence that grows, and what it grows to. -/
structure Lim {α : Type} (x : Nat → M α) (y : M α) : Prop where
  up : ∀ n H r, x n H = some r → x (n + 1) H = some r
  to : ∀ H r, y H = some r ↔ ∃ n, x n H = some r
namespace Lim
variable {α β γ : Type}
theorem ups {x : Nat → M α} {y : M α} (h : Lim x y) {n m : Nat} (hm : n ≤ m) {H : AH} {r : α × AH} (e : x n H = some r) : x m H = some r := by
  induction m with
  | zero => have : n = 0 := by omega
            subst this; exact e
  | succ m ih =>
    by_cases hn : n = m + 1
    · subst hn; exact e
    · exact h.up m H r (ih (by omega))
theorem const (y : M α) : Lim (fun _ => y) y := ⟨fun _ _ _ h => h, fun _ _ => ⟨fun h => ⟨0, h⟩, fun ⟨_, h⟩ => h⟩⟩
theorem bnd {x : Nat → M α} {y : M α} {f : Nat → α → M β} {g : α → M β} (h : Lim x y) (k : ∀ a, Lim (fun n => f n a) (g a)) : Lim (fun n => Ab.bnd (x n) (f n)) (Ab.bnd y g) := by
  refine ⟨fun n H r e => ?_, fun H r => ⟨fun e => ?_, fun ⟨n, e⟩ => ?_⟩⟩
  · simp only [Ab.bnd] at e ⊢
    cases hx : x n H with
    | none => simp [hx] at e
    | some q => simp only [hx] at e; simp only [h.up n H q hx]; exact (k q.1).up n q.2 r e
  · simp only [Ab.bnd] at e
    cases hy : y H with
    | none => simp [hy] at e
    | some q =>
      simp only [hy] at e
      obtain ⟨n1, h1⟩ := (h.to H q).1 hy
      obtain ⟨n2, h2⟩ := ((k q.1).to q.2 r).1 e
      refine ⟨max n1 n2, ?_⟩
      simp only [Ab.bnd, h.ups (Nat.le_max_left n1 n2) h1]
      exact (k q.1).ups (Nat.le_max_right n1 n2) h2
  · simp only [Ab.bnd] at e ⊢
    cases hx : x n H with
    | none => simp [hx] at e
    | some q => simp only [hx] at e; simp only [(h.to H q).2 ⟨n, hx⟩]; exact ((k q.1).to q.2 r).2 ⟨n, e⟩
theorem need {x : Option γ} {f : Nat → γ → M β} {g : γ → M β} (k : ∀ a, Lim (fun n => f n a) (g a)) : Lim (fun n => Ab.need x (f n)) (Ab.need x g) := by
  cases x with
  | none => exact const _
  | some a => exact k a
theorem ite {c : Prop} [Decidable c] {x x' : Nat → M α} {y y' : M α} (h : Lim x y) (h' : Lim x' y') : Lim (fun n => if c then x n else x' n) (if c then y else y') := by
  by_cases hc : c
  · simp only [if_pos hc]; exact h
  · simp only [if_neg hc]; exact h'
theorem guarded {g : Option Bool} {x : Nat → M AV} {y : M AV} (h : Lim x y) : Lim (fun n => Ab.guarded g (x n)) (Ab.guarded g y) := by
  cases g with
  | none => exact const _
  | some b => cases b with
    | true => exact h
    | false => exact const _
/-- A step earlier or later. -/
theorem shift {x : Nat → M α} {y : M α} (h : Lim (fun n => x (n + 1)) y) (h0 : ∀ H, x 0 H = none) : Lim x y := by
  refine ⟨fun n H r e => ?_, fun H r => ⟨fun e => ?_, fun ⟨n, e⟩ => ?_⟩⟩
  · cases n with
    | zero => rw [h0] at e; cases e
    | succ n => exact h.up n H r e
  · obtain ⟨n, e⟩ := (h.to H r).1 e; exact ⟨n + 1, e⟩
  · cases n with
    | zero => rw [h0] at e; cases e
    | succ n => exact (h.to H r).2 ⟨n, e⟩
theorem uniq {x : Nat → M α} {y z : M α} (h : Lim x y) (k : Lim x z) : y = z := by
  funext H
  cases hy : y H with
  | some r => exact ((k.to H r).2 ((h.to H r).1 hy)).symm
  | none =>
    cases hz : z H with
    | none => rfl
    | some r => rw [(h.to H r).2 ((k.to H r).1 hz)] at hy; cases hy
end Lim

open Classical in
noncomputable def limM {α : Type} (x : Nat → M α) : M α := fun H => if h : ∃ r, ∃ n, x n H = some r then some h.choose else none
theorem limM_lim {α : Type} {x : Nat → M α} (up : ∀ n H r, x n H = some r → x (n + 1) H = some r) : Lim x (limM x) := by
  have ups : ∀ {n m : Nat}, n ≤ m → ∀ {H r}, x n H = some r → x m H = some r := by
    intro n m hm H r e
    induction m with
    | zero => have : n = 0 := by omega
              subst this; exact e
    | succ m ih =>
      by_cases hn : n = m + 1
      · subst hn; exact e
      · exact up m H r (ih (by omega))
  refine ⟨up, fun H r => ⟨fun e => ?_, fun ⟨n, e⟩ => ?_⟩⟩
  · unfold limM at e
    split at e
    · rename_i h; cases e; exact h.choose_spec
    · cases e
  · have h : ∃ r, ∃ n, x n H = some r := ⟨r, n, e⟩
    unfold limM
    rw [dif_pos h]
    obtain ⟨m, hm⟩ := h.choose_spec
    have h1 := ups (Nat.le_max_left n m) e
    have h2 := ups (Nat.le_max_right n m) hm
    rw [h1] at h2
    exact h2.symm

section
variable {P : Program} {ops : Array Oper}

theorem evOp_noK {K K' : Calls?} {g : Look} {o : Oper} (h : isCall o = false) : evOp P K g o = evOp P K' g o := by
  obtain ⟨dst, op, ty, pos, aft, grd⟩ := o
  cases op
  case makeFunc fn a b => cases fn <;> rfl
  case next it s => cases s <;> rfl
  case call c =>
    obtain ⟨cal, args, ats⟩ := c
    cases cal with
    | value f => simp [isCall] at h
    | builtin b => rfl
    | invoke r m => rfl
  all_goals rfl
theorem load_noCall {o : Oper} (h : dcls P o = .load) : isCall o = false := by
  obtain ⟨dst, op, ty, pos, aft, grd⟩ := o
  cases op <;> try rfl
  rename_i c
  obtain ⟨cal, args, ats⟩ := c
  cases cal with
  | value f => simp [dcls] at h
  | builtin b => rfl
  | invoke r m => rfl

variable {Kn : Nat → Calls?} {K : Calls?} (hK : ∀ f args, Lim (fun n => Kn n f args) (K f args))
include hK
theorem lim_op (g : Look) (o : Oper) : Lim (fun n => evOp P (Kn n) g o) (evOp P K g o) := by
  cases hc : isCall o with
  | false =>
    have : (fun n => evOp P (Kn n) g o) = fun _ => evOp P K g o := by funext n; exact evOp_noK hc
    rw [this]; exact Lim.const _
  | true =>
    obtain ⟨dst, op, ty, pos, aft, grd⟩ := o
    cases op <;> try (simp [isCall] at hc; done)
    rename_i c
    obtain ⟨cal, args, ats⟩ := c
    cases cal with
    | builtin b => simp [isCall] at hc
    | invoke r m => simp [isCall] at hc
    | value f =>
      simp only [evOp]
      refine Lim.need fun fv => Lim.need fun vs => ?_
      cases fv <;> first | exact Lim.const _ | exact hK _ _
theorem lim_ops {α : Type} : ∀ (l : List Oper) (kn : Nat → Env → M α) (k : Env → M α) (E : Env), (∀ E, Lim (fun n => kn n E) (k E)) → Lim (fun n => evOps P (Kn n) ops l (kn n) E) (evOps P K ops l k E)
  | [], kn, k, E, h => h E
  | o :: l, kn, k, E, h => by
    simp only [evOps]
    exact Lim.bnd (Lim.guarded (lim_op hK E.get o)) fun v => lim_ops l kn k _ h

omit hK in
theorem upd_noK {pl : Plan} {n0 i : Nat} {S : DS} {v : AV} (n : Nat) : upd P (Kn n) ops pl n0 i S v = upd P K ops pl n0 i S v := by
  unfold upd
  cases ho : ops[i]? with
  | none => rfl
  | some o =>
    simp only
    split
    · rfl
    · cases hd : dcls P o <;> simp only
      rw [evOp_noK (K := Kn n) (K' := K) (load_noCall hd)]
theorem lim_opM {pl : Plan} {n0 i : Nat} {S : DS} : Lim (fun n => opM P (Kn n) ops pl n0 i S) (opM P K ops pl n0 i S) := by
  unfold opM
  cases ho : ops[i]? with
  | none => exact Lim.const _
  | some o =>
    simp only
    refine Lim.ite (Lim.const _) ?_
    cases hd : dcls P o with
    | pure => exact Lim.guarded (lim_op hK _ _)
    | load =>
      have : (fun n => guarded (guardV ops S.g o) (ro (evOp P (Kn n) S.g o))) = fun _ => guarded (guardV ops S.g o) (ro (evOp P K S.g o)) := by
        funext n; rw [evOp_noK (K := Kn n) (K' := K) (load_noCall hd)]
      simp only
      rw [this]; exact Lim.const _
    | _ => exact Lim.bnd (Lim.const _) fun _ => Lim.bnd (Lim.guarded (lim_op hK _ _)) fun v => Lim.const _
theorem lim_dr {pl : Plan} {n0 : Nat} {α : Type} : ∀ (l : List Nat) (kn : Nat → DS → M α) (k : DS → M α) (S : DS), (∀ S, Lim (fun n => kn n S) (k S)) → Lim (fun n => dr P (Kn n) ops pl n0 l (kn n) S) (dr P K ops pl n0 l k S)
  | [], kn, k, S, h => h S
  | i :: l, kn, k, S, h => by
    simp only [dr]
    refine Lim.bnd (lim_opM hK) fun v => ?_
    have : (fun n => dr P (Kn n) ops pl n0 l (kn n) (upd P (Kn n) ops pl n0 i S v)) = fun n => dr P (Kn n) ops pl n0 l (kn n) (upd P K ops pl n0 i S v) := by
      funext n; rw [upd_noK n]
    rw [this]
    exact lim_dr l kn k _ h
theorem lim_draw {q : PlanL} (kn : Nat → Env → M Out) (k : Env → M Out) (E : Env) (h : ∀ E, Lim (fun n => kn n E) (k E)) : Lim (fun n => evDraw q P (Kn n) ops (kn n) E) (evDraw q P K ops k E) := by
  have key : ∀ H, Lim (fun n => dr P (Kn n) ops q.plan H q.order (fun S => bnd (mrg H q.flt S.G) fun _ => kn n (envOf S.g ops.toList ++ dropE (ops.toList.filterMap (·.dst)) E)) { g := E.get, G := fun _ => none, R := fun _ => none })
      (dr P K ops q.plan H q.order (fun S => bnd (mrg H q.flt S.G) fun _ => k (envOf S.g ops.toList ++ dropE (ops.toList.filterMap (·.dst)) E)) { g := E.get, G := fun _ => none, R := fun _ => none }) :=
    fun H => lim_dr hK _ (fun n S => bnd (mrg H q.flt S.G) fun _ => kn n (envOf S.g ops.toList ++ dropE (ops.toList.filterMap (·.dst)) E)) _ _ fun S => Lim.bnd (Lim.const _) fun _ => h _
  refine ⟨fun n H r e => ?_, fun H r => ?_⟩
  · unfold evDraw at e ⊢
    split at e
    · rename_i hc; rw [if_pos hc]; exact (key H.nx).up n _ r e
    · cases e
  · unfold evDraw
    by_cases hc : planOk P ops q = true
    · simp only [if_pos hc]; exact (key H.nx).to _ r
    · simp [if_neg hc]
omit hK

theorem loopN_up {f : List AV → M Out} : ∀ (n : Nat) (ws : List AV) (H : AH) (r : Out × AH), loopN n f ws H = some r → loopN (n + 1) f ws H = some r
  | 0, ws, H, r, h => by simp [loopN, fail] at h
  | n + 1, ws, H, r, h => by
    simp only [loopN, bnd] at h
    show bnd (f ws) _ H = _
    simp only [bnd]
    cases hf : f ws H with
    | none => simp [hf] at h
    | some q =>
      obtain ⟨o, H1⟩ := q
      simp only [hf] at h ⊢
      cases o with
      | nrm ws' => exact loopN_up n ws' H1 r h
      | ext id ws' => exact h
      | ret vs => exact h
noncomputable def loopW (f : List AV → M Out) (ws : List AV) : M Out := limM fun n => loopN n f ws
theorem loopW_lim (f : List AV → M Out) (ws : List AV) : Lim (fun n => loopN n f ws) (loopW f ws) := limM_lim fun n H r => loopN_up n ws H r
theorem loopW_eq (f : List AV → M Out) (ws : List AV) : loopW f ws = bnd (f ws) fun o => match o with | .nrm ws => loopW f ws | o => ret o := by
  refine (loopW_lim f ws).uniq (Lim.shift ?_ fun _ => rfl)
  simp only [loopN]
  refine Lim.bnd (Lim.const _) fun o => ?_
  cases o with
  | nrm ws' => exact loopW_lim f ws'
  | ext id ws' => exact Lim.const _
  | ret vs => exact Lim.const _
theorem lim_loop {fn : Nat → List AV → M Out} {f : List AV → M Out} (h : ∀ ws, Lim (fun n => fn n ws) (f ws)) (ws : List AV) : Lim (fun n => loopN n (fn n) ws) (loopW f ws) := by
  have mono : ∀ (n m : Nat) (ws : List AV) (H : AH) (r : Out × AH), loopN n (fn m) ws H = some r → ∀ m', m ≤ m' → loopN n (fn m') ws H = some r := by
    intro n
    induction n with
    | zero => intro m ws H r h; simp [loopN, fail] at h
    | succ n ih =>
      intro m ws H r e m' hm
      simp only [loopN, bnd] at e ⊢
      cases hf : fn m ws H with
      | none => simp [hf] at e
      | some q =>
        obtain ⟨o, H1⟩ := q
        simp only [hf] at e
        simp only [(h ws).ups hm hf]
        cases o with
        | nrm ws' => exact ih m ws' H1 r e m' hm
        | ext id ws' => exact e
        | ret vs => exact e
  have toInf : ∀ (n m : Nat) (ws : List AV) (H : AH) (r : Out × AH), loopN n (fn m) ws H = some r → loopN n f ws H = some r := by
    intro n
    induction n with
    | zero => intro m ws H r h; simp [loopN, fail] at h
    | succ n ih =>
      intro m ws H r e
      simp only [loopN, bnd] at e ⊢
      cases hf : fn m ws H with
      | none => simp [hf] at e
      | some q =>
        obtain ⟨o, H1⟩ := q
        simp only [hf] at e
        simp only [((h ws).to H (o, H1)).2 ⟨m, hf⟩]
        cases o with
        | nrm ws' => exact ih m ws' H1 r e
        | ext id ws' => exact e
        | ret vs => exact e
  have fromInf : ∀ (n : Nat) (ws : List AV) (H : AH) (r : Out × AH), loopN n f ws H = some r → ∃ m, loopN n (fn m) ws H = some r := by
    intro n
    induction n with
    | zero => intro ws H r h; simp [loopN, fail] at h
    | succ n ih =>
      intro ws H r e
      simp only [loopN, bnd] at e
      cases hf : f ws H with
      | none => simp [hf] at e
      | some q =>
        obtain ⟨o, H1⟩ := q
        simp only [hf] at e
        obtain ⟨m1, h1⟩ := ((h ws).to H (o, H1)).1 hf
        cases o with
        | nrm ws' =>
          obtain ⟨m2, h2⟩ := ih ws' H1 r e
          refine ⟨max m1 m2, ?_⟩
          simp only [loopN, bnd, (h ws).ups (Nat.le_max_left m1 m2) h1]
          exact mono n m2 ws' H1 r h2 _ (Nat.le_max_right m1 m2)
        | ext id ws' => exact ⟨m1, by simp only [loopN, bnd, h1]; exact e⟩
        | ret vs => exact ⟨m1, by simp only [loopN, bnd, h1]; exact e⟩
  have ups : ∀ (a b : Nat), a ≤ b → ∀ (f : List AV → M Out) (ws : List AV) (H : AH) (r : Out × AH), loopN a f ws H = some r → loopN b f ws H = some r := by
    intro a b hab f ws H r e
    induction b with
    | zero => have : a = 0 := by omega
              subst this; exact e
    | succ b ih =>
      by_cases hn : a = b + 1
      · subst hn; exact e
      · exact loopN_up b ws H r (ih (by omega))
  refine ⟨fun n H r e => mono (n + 1) n ws H r (loopN_up n ws H r e) (n + 1) (by omega), fun H r => ⟨fun e => ?_, fun ⟨n, e⟩ => ?_⟩⟩
  · obtain ⟨n, h1⟩ := ((loopW_lim f ws).to H r).1 e
    obtain ⟨m, h2⟩ := fromInf n ws H r h1
    exact ⟨max n m, ups n _ (Nat.le_max_left n m) _ ws H r (mono n m ws H r h2 _ (Nat.le_max_right n m))⟩
  · exact ((loopW_lim f ws).to H r).2 ⟨n, toInf n n ws H r e⟩

include hK
theorem lim_code {rs : List ResultVar} : ∀ (c : Code) (x : Ann) (B : List (Nat × List Nat)) (kn : Nat → Env → M Out) (k : Env → M Out) (E : Env), (∀ E, Lim (fun n => kn n E) (k E)) →
    Lim (fun n => evK P { K := Kn n, L := loopN n, D := evDraw } rs c x B (kn n) E) (evK P { K := K, L := loopW, D := evDraw } rs c x B k E) := by
  intro c
  have fin_ : ∀ ks E, Lim (fun _ : Nat => fin ks E) (fin ks E) := fun ks E => Lim.const _
  induction c with
  | skip => intro x B kn k E h; simp only [evK]; exact h E
  | label l => intro x B kn k E h; simp only [evK]; exact h E
  | region id ops draw =>
    intro x B kn k E h
    cases draw with
    | false => simp only [evK]; exact lim_ops hK _ kn k E h
    | true => cases x <;> simp only [evK] <;> first | exact Lim.const _ | exact lim_draw hK kn k E h
  | seq a b iha ihb =>
    intro x B kn k E h
    cases x <;> simp only [evK] <;> try exact Lim.const _
    rename_i x1 x2
    exact iha x1 B (fun n E => evK P { K := Kn n, L := loopN n, D := evDraw } rs b x2 B (kn n) E) _ E fun E => ihb x2 B kn k E h
  | cond c a b iha ihb =>
    intro x B kn k E h
    cases x <;> simp only [evK] <;> try exact Lim.const _
    rename_i ks x1 x2
    refine Lim.need fun cv => Lim.bnd ?_ fun o => ?_
    · cases cv <;> simp only [iteM] <;> try exact Lim.const _
      exact Lim.ite (iha x1 B (fun _ => fin ks) _ E fun E => fin_ ks E) (ihb x2 B (fun _ => fin ks) _ E fun E => fin_ ks E)
    · cases o <;> simp only [dsp] <;> first | exact Lim.const _ | exact h _
  | block id a iha =>
    intro x B kn k E h
    cases x <;> simp only [evK] <;> try exact Lim.const _
    rename_i ks x1
    refine Lim.bnd (iha x1 _ (fun _ => fin ks) _ E fun E => fin_ ks E) fun o => ?_
    cases o <;> simp only [dspB] <;> first | exact Lim.const _ | exact h _ | exact Lim.ite (h _) (Lim.const _)
  | loop a iha =>
    intro x B kn k E h
    cases x <;> simp only [evK] <;> try exact Lim.const _
    rename_i ks x1
    refine Lim.need fun ws => Lim.bnd ?_ fun o => ?_
    · exact lim_loop (fn := fun n ws => evK P { K := Kn n, L := loopN n, D := evDraw } rs a x1 B (fin ks) (after (writes a) ks ws E)) (fun ws => iha x1 B (fun _ => fin ks) _ _ fun E => fin_ ks E) ws
    · cases o <;> simp only [dsp] <;> first | exact Lim.const _ | exact h _
  | exit id => intro x B kn k E h; simp only [evK]; exact Lim.const _
  | ret => intro x B kn k E h; simp only [evK]; exact Lim.const _
  | rangeFunc f ps as b ih1 ih2 => intro x B kn k E h; simp only [evK]; exact Lim.const _
  | scope c ih => intro x B kn k E h; simp only [evK]; exact Lim.const _
  | goto l => intro x B kn k E h; simp only [evK]; exact Lim.const _
  | refuse why => intro x B kn k E h; simp only [evK]; exact Lim.const _
theorem lim_body {A : Ann} {fn : Func} {args : List AV} : Lim (fun n => body P { K := Kn n, L := loopN n, D := evDraw } A fn args) (body P { K := K, L := loopW, D := evDraw } A fn args) := by
  unfold body
  cases fn.body with
  | none => exact Lim.const _
  | some c =>
    simp only
    refine Lim.ite (Lim.bnd ?_ fun o => Lim.const _) (Lim.const _)
    exact lim_code hK c A [] (fun _ E => bnd (resA P E fn.results.toList) fun vs => ret (.ret vs)) _ _ fun E => Lim.const _
end

theorem run_up {A : FuncId → Ann} {P : Program} : ∀ (n : Nat) (f : FuncId) (args : List AV) (H : AH) (r : AV × AH), run evDraw A P n f args H = some r → run evDraw A P (n + 1) f args H = some r := by
  intro n
  induction n using Nat.strongRecOn with
  | _ n ih =>
    intro f args H r e
    cases n with
    | zero => simp [run, fail] at e
    | succ n =>
      have ups : ∀ (a b : Nat), a ≤ b → b ≤ n + 1 → ∀ f args H r, run evDraw A P a f args H = some r → run evDraw A P b f args H = some r := by
        intro a b hab hb f args H r e
        induction b with
        | zero => have : a = 0 := by omega
                  subst this; exact e
        | succ b ihb =>
          by_cases hn : a = b + 1
          · subst hn; exact e
          · exact ih b (by omega) f args H r (ihb (by omega) (by omega))
      have hK : ∀ f args, Lim (fun m => run evDraw A P (min m (n + 1)) f args) (run evDraw A P (n + 1) f args) := by
        intro f args
        refine ⟨fun m H r e => ups _ _ (by omega) (by omega) f args H r e, fun H r => ⟨fun e => ⟨n + 1, by simpa using e⟩, fun ⟨m, e⟩ => ups _ _ (by omega) (by omega) f args H r e⟩⟩
      simp only [run] at e ⊢
      cases hf : P.funcs[f]? with
      | none => simp [hf, fail] at e
      | some fn =>
        simp only [hf] at e ⊢
        split at e
        · simp [fail] at e
        · rename_i hname
          rw [if_neg hname]
          have := (lim_body (P := P) (A := A f) (fn := fn) (args := args) hK).up n H r
          simp only [Nat.min_eq_left (Nat.le_succ n), Nat.min_self] at this
          exact this e

/-- What a function comes to. -/
noncomputable def callW (A : FuncId → Ann) (P : Program) (f : FuncId) (args : List AV) : M AV := limM fun n => run evDraw A P n f args
theorem callW_lim (A : FuncId → Ann) (P : Program) (f : FuncId) (args : List AV) : Lim (fun n => run evDraw A P n f args) (callW A P f args) := limM_lim fun n H r => run_up n f args H r
/-- A function comes to what its body comes to. -/
theorem callW_eq {A : FuncId → Ann} {P : Program} {f : FuncId} {fn : Func} (hf : P.funcs[f]? = some fn) (hn : fn.name ≠ "runtime.NumGoroutine") (args : List AV) :
    callW A P f args = body P { K := callW A P, L := loopW, D := evDraw } (A f) fn args := by
  refine (callW_lim A P f args).uniq (Lim.shift ?_ fun _ => rfl)
  have : (fun n => run evDraw A P (n + 1) f args) = fun n => body P { K := run evDraw A P n, L := loopN n, D := evDraw } (A f) fn args := by
    funext n; simp only [run, hf, if_neg hn]
  rw [this]
  exact lim_body fun f args => callW_lim A P f args

/-- What the abstract machine comes to, the model's function comes to. -/
theorem calls_of {A : FuncId → Ann} {P : Program} {W0 : World} (hm : P.follows .mixedOrders = true) {G : Nat → Option Blk} {f : FuncId} {args : List AV} {vs : List Value} {μ : Mu} {w : World} {H H' : AH} {v : AV}
    (hr : RelG W0 μ w H G) (hv : VRL μ args vs) (h : callW A P f args H = some (v, H')) :
    Calls P f ⟨vs⟩ w fun e w' => ∃ v' μ', e = .returned v' ∧ Lx H.nx μ H'.nx μ' ∧ RelG W0 μ' w' H' G ∧ VR μ' v v' := by
  obtain ⟨n, hn⟩ := ((callW_lim A P f args).to H (v, H')).1 h
  exact (sound hm n).calls f args vs μ w H G v H' hr hv hn
end Go.Ab
