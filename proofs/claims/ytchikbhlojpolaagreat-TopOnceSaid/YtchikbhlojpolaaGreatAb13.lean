/- The abstract machine stands for the model: regions in the order of the text, the code, functions. -/
import Derived.Test.YtchikbhlojpolaaGreatAb12
import Derived.LoopN
namespace Go.Ab
open Go Go.RowKit

def LookRel (μ : Mu) (g : Look) (a : Act) : Prop := ∀ t x, g t = some x → VR μ x (a.tmps.getD t undef)
def EnvRel (μ : Mu) (E : Env) (a : Act) : Prop := LookRel μ E.get a
/-- What a stretch of code leaves as it was. -/
structure Kept (wr : List Nat) (a a' : Act) : Prop where
  size : a'.tmps.size = a.tmps.size
  defers : a'.defers = a.defers
  slot : ∀ t, t ∉ wr → a'.tmps.getD t undef = a.tmps.getD t undef
theorem Kept.refl (wr : List Nat) (a : Act) : Kept wr a a := ⟨rfl, rfl, fun _ _ => rfl⟩
theorem Kept.trans {w1 w2 : List Nat} {a b c : Act} (h : Kept w1 a b) (k : Kept w2 b c) : Kept (w1 ++ w2) a c :=
  ⟨k.size.trans h.size, k.defers.trans h.defers, fun t ht => (k.slot t (fun m => ht (List.mem_append.2 (.inr m)))).trans (h.slot t (fun m => ht (List.mem_append.2 (.inl m))))⟩
theorem Kept.mono {w1 w2 : List Nat} {a b : Act} (h : Kept w1 a b) (hs : ∀ t, t ∈ w1 → t ∈ w2) : Kept w2 a b :=
  ⟨h.size, h.defers, fun t ht => h.slot t (fun m => ht (hs t m))⟩

theorem LookRel.mono {μ μ' : Mu} {E : Look} {a : Act} (h : LookRel μ E a) (hl : Le μ μ') : LookRel μ' E a := fun t x e => (h t x e).mono hl
theorem EnvRel.mono {μ μ' : Mu} {E : Env} {a : Act} (h : EnvRel μ E a) (hl : Le μ μ') : EnvRel μ' E a := fun t x e => (h t x e).mono hl
theorem LookRel.opv {μ : Mu} {E : Look} {a : Act} (h : LookRel μ E a) : ∀ x y, opv E x = some y → VR μ y (a.eval x) := by
  intro x y e
  cases x with
  | tmp t => exact h t y e
  | const v => exact ofVal_VR e
  | func f => simp only [Ab.opv, Option.some.injEq] at e; subst e; exact .fn .nil
  | global g => simp [Ab.opv] at e

theorem getD_put {a : Act} {d t : Nat} {v : Value} (hd : d < a.tmps.size) : (a.put (some d) v).tmps.getD t undef = if t = d then v else a.tmps.getD t undef := by
  simp only [Act.put, Array.getD_eq_getD_getElem?, Array.getElem?_setIfInBounds]
  by_cases h : d = t
  · subst h; simp [hd]
  · rw [if_neg h, if_neg (fun e => h e.symm)]
theorem put_kept {a : Act} {dst : Option Nat} {v : Value} : Kept dst.toList a (a.put dst v) := by
  cases dst with
  | none => exact ⟨rfl, rfl, fun _ _ => rfl⟩
  | some d =>
    refine ⟨by simp [Act.put], rfl, fun t ht => ?_⟩
    have hne : t ≠ d := by simpa using ht
    simp only [Act.put, Array.getD_eq_getD_getElem?, Array.getElem?_setIfInBounds]
    rw [if_neg (fun e => hne e.symm)]
theorem EnvRel.put {μ : Mu} {E : Env} {a : Act} (h : EnvRel μ E a) {dst : Option Nat} {x : AV} {v : Value} (hd : ∀ d, dst = some d → d < a.tmps.size) (hx : VR μ x v) : EnvRel μ (E.put dst x) (a.put dst v) := by
  cases dst with
  | none => exact h
  | some d =>
    intro t y e
    rw [getD_put (hd d rfl)]
    simp only [Env.put, Env.get] at e
    by_cases ht : t = d
    · subst ht; simp at e; subst e; simpa using hx
    · rw [if_neg ht]
      rw [if_neg (fun e => ht e.symm)] at e
      exact h t y e

/-- The callees, as the evaluator takes them, stand for the model's. -/
structure SoundK (P : Program) (W0 : World) (K : Calls?) : Prop where
  fn : ∀ f args H r, K f args H = some r → ∃ fn c, P.funcs[f]? = some fn ∧ fn.body = some c ∧ fn.name ≠ "runtime.NumGoroutine"
  calls : ∀ f args (vs : List Value) μ w H G v H', RelG W0 μ w H G → VRL μ args vs → K f args H = some (v, H') →
    Calls P f ⟨vs⟩ w fun e w' => ∃ v' μ', e = .returned v' ∧ Lx H.nx μ H'.nx μ' ∧ RelG W0 μ' w' H' G ∧ VR μ' v v'

section
variable {P : Program} {W0 : World} {G : Nat → Option Blk} {K : Calls?}

theorem guard_wanted {ops : Array Oper} {E : Look} {a : Act} {o : Oper} {μ : Mu} (hE : LookRel μ E a) {g : Bool} (h : guardV ops E o = some g) : Region.wanted o (yielded ops a.tmps) = g := by
  unfold guardV at h
  unfold Region.wanted
  split at h
  · rename_i hg
    simp at h; subst h; simp [hg]
  · rename_i j want hg
    simp only [hg]
    split at h
    · cases h
    · rename_i d hd
      split at h
      · rename_i b hb
        simp at h; subst h
        have := VR.bool_inv (hE _ _ hb)
        have hin : a.tmps[d]? = some (.bool b) := by
          rw [Array.getD_eq_getD_getElem?] at this
          cases hq : a.tmps[d]? with
          | none => rw [hq] at this; simp [undef] at this
          | some v => rw [hq] at this; simp at this; rw [this]
        simp [yielded, hd, hin]
      · rename_i hb
        simp at h; subst h
        have := hE _ _ hb
        have hv : a.tmps.getD d undef = .tuple #[] := by
          generalize a.tmps.getD d undef = v at this
          cases this with
          | tup h => cases h; rfl
        have : yielded ops a.tmps j = none := by
          unfold yielded
          simp only [hd, Option.bind_some]
          cases hq : a.tmps[d]? with
          | none => rfl
          | some v => rw [Array.getD_eq_getD_getElem?, hq] at hv; simp at hv; rw [hv]
        rw [this]; rfl
      · cases h

/-- One operation: it is walked, and what comes is related again. -/
theorem sound_oper (hK : SoundK P W0 K) {E : Look} {a : Act} {μ : Mu} {w : World} {H : AH} (hr : RelG W0 μ w H G) (hE : LookRel μ E a) {o : Oper} {v : AV} {H1 : AH} (he : evOp P K E o H = some (v, H1))
    {next : Act → World → Prop} {Q : Exit → Act → World → Prop}
    (hn : ∀ μ' v' w', Lx H.nx μ H1.nx μ' → RelG W0 μ' w' H1 G → VR μ' v v' → next (a.put o.dst v') w') : o.wp P a w next Q := by
  by_cases hc : isCall o = true
  · obtain ⟨dst, op, ty, pos, aft, grd⟩ := o
    cases op <;> try (simp [isCall] at hc; done)
    rename_i c
    obtain ⟨cal, args, ats⟩ := c
    cases cal with
    | builtin b => simp [isCall] at hc
    | invoke r m => simp [isCall] at hc
    | value f =>
      simp only [evOp] at he
      cases hf : opv E f with
      | none => simp [hf, need, fail] at he
      | some fv =>
        cases hvs : opvs E args.toList with
        | none => simp [hf, hvs, need, fail] at he
        | some vs =>
          simp only [hf, hvs, need] at he
          cases fv with
          | fn g caps =>
            simp only at he
            obtain ⟨cvs, hcv, hav⟩ := VR.fn_inv (hE.opv _ _ hf)
            have hargs := opvs_rel hE.opv _ _ hvs
            obtain ⟨fn, cd, h1, h2, h3⟩ := hK.fn _ _ _ _ he
            have hcalls := hK.calls g (vs ++ caps) (args.toList.map a.eval ++ cvs) μ w H G v H1 hr (hargs.append hcv) he
            have hrun : (execOp a.eval { dst := dst, op := Op.call { callee := Callee.value f, args := args, argTypes := ats }, type := ty, pos := pos, after := aft, guard := grd }).run P w = .ok (.enter g ⟨args.toList.map a.eval ++ cvs⟩) w := by
              have e : #[] ++ args.map a.eval ++ (⟨cvs⟩ : Array Value) = ⟨args.toList.map a.eval ++ cvs⟩ := by apply Array.ext'; simp
              simp only [execOp, resolve, hav, Deferred.ofValue, Sem.run_bind, Sem.run_pure, Result.andThen_ok, invoke, callFunc, run_program, h1]
              have h3' : (fn.name == "runtime.NumGoroutine") = false := by simpa using h3
              simp [h3', h2]
            unfold Oper.wp
            rw [hrun, Oper.upon_enter]
            refine hcalls.mono fun e w' => ?_
            rintro ⟨v', μ', rfl, g1, g2, g3⟩
            exact hn μ' v' w' g1 g2 g3
          | _ => simp [fail] at he
  · have hc' : isCall o = false := by cases h : isCall o with | true => exact absurd h hc | false => rfl
    obtain ⟨n, w', μ', h1, h2, h3, h4⟩ := sim_op (P := P) (K := K) hr hE.opv hc' v H1 he
    unfold Oper.wp
    rw [h1]
    rcases h4 with ⟨u, rfl, hu⟩ | ⟨rfl, rfl⟩
    · exact hn μ' u w' h2 h3 hu
    · exact hn μ' undef w' h2 h3 (.tup .nil)

/-- Operations in the order of the text. -/
theorem sound_ops (hK : SoundK P W0 K) {ops : Array Oper} {α : Type} {out : α} {H' : AH} {Q : Exit → Act → World → Prop} : ∀ (l : List Oper) (i : Nat) (k : Env → M α) (E : Env) (a : Act) (μ : Mu) (w : World) (H : AH),
    (∀ j o, l[j]? = some o → ops[i + j]? = some o) → RelG W0 μ w H G → EnvRel μ E a → (∀ o ∈ l, ∀ d, o.dst = some d → d < a.tmps.size) →
    evOps P K ops l k E H = some (out, H') →
    (∀ μ' E' a' w' H1, Lx H.nx μ H1.nx μ' → RelG W0 μ' w' H1 G → EnvRel μ' E' a' → Kept (l.filterMap (·.dst)) a a' → k E' H1 = some (out, H') → Q .normal a' w') →
    wpOps P ops Q (List.range' i l.length) a w
  | [], i, k, E, a, μ, w, H, _, hr, hE, _, he, hn => by
    simp only [List.length_nil, List.range'_zero, wpOps]
    exact hn μ E a w H (Lx.refl _ _) hr hE (Kept.refl _ _) he
  | o :: l, i, k, E, a, μ, w, H, ho, hr, hE, hd, he, hn => by
    simp only [List.length_cons, List.range'_succ, wpOps]
    have h0 := ho 0 o rfl
    simp only [Nat.add_zero] at h0
    simp only [h0]
    simp only [evOps, bnd] at he
    have tail : ∀ (μ1 : Mu) (w1 : World) (H1 : AH) (x : AV) (v : Value), Lx H.nx μ H1.nx μ1 → RelG W0 μ1 w1 H1 G → VR μ1 x v → evOps P K ops l k (E.put o.dst x) H1 = some (out, H') →
        wpOps P ops Q (List.range' (i + 1) l.length) (a.put o.dst v) w1 := by
      intro μ1 w1 H1 x v hlx hr1 hx hev
      have hk1 := put_kept (a := a) (dst := o.dst) (v := v)
      refine sound_ops hK l (i + 1) k (E.put o.dst x) (a.put o.dst v) μ1 w1 H1 (fun j p hj => by have := ho (j + 1) p (by simpa using hj); rw [show i + 1 + j = i + (j + 1) by omega]; exact this) hr1
        ((hE.mono hlx.le).put (hd o (by simp)) hx) (fun p hp d hpd => by rw [hk1.size]; exact hd p (by simp [hp]) d hpd) hev ?_
      intro μ' E' a' w' H2 h1 h2 h3 h4 h5
      refine hn μ' E' a' w' H2 (hlx.trans h1) h2 h3 ((hk1.trans h4).mono fun t ht => ?_) h5
      rw [List.mem_append] at ht
      rcases ht with ht | ht
      · cases hod : o.dst with
        | none => simp [hod] at ht
        | some d => simp [hod] at ht; simp [hod, ht]
      · cases hod : o.dst with
        | none => simpa [hod] using ht
        | some d => simp only [List.filterMap_cons, hod]; exact List.mem_cons_of_mem _ ht
    cases hg : guardV ops E.get o with
    | none => simp [guarded, hg, fail] at he
    | some g =>
      have hw := guard_wanted hE hg
      cases g with
      | true =>
        rw [if_pos hw]
        left
        simp only [guarded, hg] at he
        cases hev : evOp P K E.get o H with
        | none => simp [hev] at he
        | some r =>
          obtain ⟨x, H1⟩ := r
          simp only [hev] at he
          exact sound_oper hK hr hE hev fun μ1 v w1 h1 h2 h3 => tail μ1 w1 H1 x v h1 h2 h3 he
      | false =>
        rw [if_neg (by rw [hw]; simp)]
        simp only [guarded, hg, ret] at he
        exact tail μ w H undefA undef (Lx.refl _ _) hr (.tup .nil) he
end
end Go.Ab
