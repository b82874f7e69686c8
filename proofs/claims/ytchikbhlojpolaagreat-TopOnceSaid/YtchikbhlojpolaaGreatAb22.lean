/- The machine with summaries of functions: a function that has a summary comes to what the summary says. -/
import Derived.Test.YtchikbhlojpolaaGreatAb21
namespace Go.Ab
open Go Go.RowKit

section
variable {P : Program} {ops : Array Oper} {Kn : Nat → Calls?} {K : Calls?} (hK : ∀ f args, Lim (fun n => Kn n f args) (K f args))
include hK
theorem Sm.lim_code {rs : List ResultVar} : ∀ (c : Code) (x : Ann) (B : List (Nat × List Nat)) (kn : Nat → Env → M Out) (k : Env → M Out) (E : Env), (∀ E, Lim (fun n => kn n E) (k E)) →
    Lim (fun n => evK P { K := Kn n, L := loopN n, D := evD } rs c x B (kn n) E) (evK P { K := K, L := loopW, D := evD } rs c x B k E) := by
  intro c
  have fin_ : ∀ ks E, Lim (fun _ : Nat => fin ks E) (fin ks E) := fun ks E => Lim.const _
  induction c with
  | skip => intro x B kn k E h; simp only [evK]; exact h E
  | label l => intro x B kn k E h; simp only [evK]; exact h E
  | region id ops draw =>
    intro x B kn k E h
    cases draw with
    | false => simp only [evK]; exact lim_ops hK _ kn k E h
    | true => cases x <;> simp only [evK] <;> first | exact Lim.const _ | exact lim_evD hK kn k E h
  | seq a b iha ihb =>
    intro x B kn k E h
    cases x <;> simp only [evK] <;> try exact Lim.const _
    rename_i x1 x2
    exact iha x1 B (fun n E => evK P { K := Kn n, L := loopN n, D := evD } rs b x2 B (kn n) E) _ E fun E => ihb x2 B kn k E h
  | cond c a b iha ihb =>
    intro x B kn k E h
    cases x <;> simp only [evK] <;> try exact Lim.const _
    rename_i ks x1 x2
    refine Lim.need fun cv => Lim.bnd ?_ fun o => ?_
    · cases cv <;> simp only [iteM] <;> try exact Lim.const _
      exact Lim.ite (iha x1 B (fun _ => fin ks) _ E fun E => fin_ ks E) (ihb x2 B (fun _ => fin ks) _ E fun E => fin_ ks E)
    · cases o <;> simp only [dsp] <;> first | exact Lim.const _ | exact h _
  | block id a iha =>
    intro x B kn k E h
    cases x <;> simp only [evK] <;> try exact Lim.const _
    rename_i ks x1
    refine Lim.bnd (iha x1 _ (fun _ => fin ks) _ E fun E => fin_ ks E) fun o => ?_
    cases o <;> simp only [dspB] <;> first | exact Lim.const _ | exact h _ | exact Lim.ite (h _) (Lim.const _)
  | loop a iha =>
    intro x B kn k E h
    cases x <;> simp only [evK] <;> try exact Lim.const _
    rename_i ks x1
    refine Lim.need fun ws => Lim.bnd ?_ fun o => ?_
    · exact lim_loop (fn := fun n ws => evK P { K := Kn n, L := loopN n, D := evD } rs a x1 B (fin ks) (after (writes a) ks ws E)) (fun ws => iha x1 B (fun _ => fin ks) _ _ fun E => fin_ ks E) ws
    · cases o <;> simp only [dsp] <;> first | exact Lim.const _ | exact h _
  | exit id => intro x B kn k E h; simp only [evK]; exact Lim.const _
  | ret => intro x B kn k E h; simp only [evK]; exact Lim.const _
  | rangeFunc f ps as b ih1 ih2 => intro x B kn k E h; simp only [evK]; exact Lim.const _
  | scope c ih => intro x B kn k E h; simp only [evK]; exact Lim.const _
  | goto l => intro x B kn k E h; simp only [evK]; exact Lim.const _
  | refuse why => intro x B kn k E h; simp only [evK]; exact Lim.const _
theorem Sm.lim_body {A : Ann} {fn : Func} {args : List AV} : Lim (fun n => body P { K := Kn n, L := loopN n, D := evD } A fn args) (body P { K := K, L := loopW, D := evD } A fn args) := by
  unfold body
  cases fn.body with
  | none => exact Lim.const _
  | some c =>
    simp only
    refine Lim.ite (Lim.bnd ?_ fun o => Lim.const _) (Lim.const _)
    exact Sm.lim_code hK c A [] (fun _ E => bnd (resA P E fn.results.toList) fun vs => ret (.ret vs)) _ _ fun E => Lim.const _
end

/-- What the machine's body of a function comes to, the model's function comes to. -/
theorem sound_body {P : Program} {W0 : World} {K : Calls?} {D : PlanL → Program → Calls? → Array Oper → (Env → M Out) → Env → M Out} {A : Ann} {n : Nat} {f : FuncId} {fn : Func} {c : Code}
    (hK : SoundK P W0 K) (hD : SoundD P W0 D K) (hf : P.funcs[f]? = some fn) (hb : fn.body = some c)
    {G : Nat → Option Blk} {args : List AV} {vs : List Value} {μ : Mu} {w : World} {H H' : AH} {v : AV} (hr : RelG W0 μ w H G) (hv : VRL μ args vs)
    (h : body P { K := K, L := loopN n, D := D } A fn args H = some (v, H')) :
    Calls P f ⟨vs⟩ w fun e w' => ∃ v' μ', e = .returned v' ∧ Lx H.nx μ H'.nx μ' ∧ RelG W0 μ' w' H' G ∧ VR μ' v v' := by
    simp only [body, hb] at h
    split at h
    · rename_i hst
      simp only [Bool.and_eq_true, List.all_eq_true, decide_eq_true_eq] at hst
      obtain ⟨hst1, hst2⟩ := hst
      simp only [bnd] at h
      split at h
      · rename_i out H1 ho
        have hlen := hv.length
        refine calls_of_wp hf hb ?_
        have hsz : ((⟨vs⟩ : Array Value) ++ Array.replicate (fn.ntmps - (⟨vs⟩ : Array Value).size) undef).size = fn.ntmps := by simp; omega
        have hfin : ∀ (e : Exit) (vs' : List AV) (μ' : Mu) (a' : Act) (w' : World), (e = .normal ∨ e = .ret) → out = .ret vs' → Lx H.nx μ H1.nx μ' → RelG W0 μ' w' H1 G → ResRel P fn μ' vs' a' w' → a'.defers = [] →
            bodyPost P fn (fun e w' => ∃ v' μ', e = .returned v' ∧ Lx H.nx μ H'.nx μ' ∧ RelG W0 μ' w' H' G ∧ VR μ' v v') e a' w' := by
          intro e vs' μ' a' w' he h1 h2 h3 h4 h5
          subst h1
          simp only [ret, Option.some.injEq, Prod.mk.injEq] at h
          obtain ⟨rfl, rfl⟩ := h
          obtain ⟨u, k1, k2⟩ := h4
          rcases he with rfl | rfl <;> exact ⟨h5, u, k1, u, μ', rfl, h2, h3, k2⟩
        refine sound_code (fn := fn) (C := { K := K, L := loopN n, D := D }) hK hD rfl c A [] _ (argE 0 args) _ μ w H out H1 _ hr ?_ ?_ ho ?_ ?_ ?_
        · intro t x e
          obtain ⟨_, h2⟩ := argE_get _ _ _ _ e
          obtain ⟨u, k1, k2⟩ := hv.get h2
          simp only [Nat.sub_zero] at k1
          have ht : t < vs.length := by
            rcases Nat.lt_or_ge t vs.length with h' | h'
            · exact h'
            · simp [List.getElem?_eq_none h'] at k1
          have : ((⟨vs⟩ : Array Value) ++ Array.replicate (fn.ntmps - (⟨vs⟩ : Array Value).size) undef).getD t undef = u := by
            rw [Array.getD_eq_getD_getElem?, Array.getElem?_append_left (by simpa using ht)]
            simp [k1]
          rw [this]
          exact k2
        · intro d hd
          rw [hsz]
          exact hst1 d hd
        · intro μ' E' a' w' H2 l r e k he
          simp only [bnd] at he
          split at he
          · rename_i vs' H3 h3
            simp only [ret, Option.some.injEq, Prod.mk.injEq] at he
            obtain ⟨rfl, rfl⟩ := he
            obtain ⟨rfl, hres⟩ := resRel_of r e h3
            exact hfin .normal vs' μ' a' w' (.inl rfl) rfl l r hres k.defers
          · cases he
        · intro id ws ks μ' a' w' _ h2
          simp at h2
        · intro vs' μ' a' w' h1 l r hres k
          exact hfin .ret vs' μ' a' w' (.inr rfl) h1 l r hres k.defers
      · cases h
    · simp [fail] at h

/-- A summary that the model's function keeps. -/
structure Good (P : Program) (f : FuncId) (s : List AV → M AV) : Prop where
  fn : ∃ fn c, P.funcs[f]? = some fn ∧ fn.body = some c ∧ fn.name ≠ "runtime.NumGoroutine"
  calls : ∀ {W0 : World} {G : Nat → Option Blk} {args : List AV} {vs : List Value} {μ : Mu} {w : World} {H H' : AH} {v : AV}, RelG W0 μ w H G → VRL μ args vs → s args H = some (v, H') →
    Calls P f ⟨vs⟩ w fun e w' => ∃ v' μ', e = .returned v' ∧ Lx H.nx μ H'.nx μ' ∧ RelG W0 μ' w' H' G ∧ VR μ' v v'
abbrev Sums := FuncId → Option (List AV → M AV)
def GoodS (P : Program) (S : Sums) : Prop := ∀ f s, S f = some s → Good P f s

noncomputable def runS (S : Sums) (A : FuncId → Ann) (P : Program) : Nat → FuncId → List AV → M AV
  | 0, _, _ => fail
  | n + 1, f, args =>
    match S f with
    | some s => s args
    | none => match P.funcs[f]? with
      | none => fail
      | some fn => if fn.name = "runtime.NumGoroutine" then fail else body P { K := runS S A P n, L := loopN n, D := evD } (A f) fn args

theorem sound_runS {P : Program} {W0 : World} {S : Sums} {A : FuncId → Ann} (hm : P.follows .mixedOrders = true) (hS : GoodS P S) : ∀ n, SoundK P W0 (runS S A P n)
  | 0 => ⟨fun f args H r h => by simp [runS, fail] at h, fun f args vs μ w H G v H' _ _ h => by simp [runS, fail] at h⟩
  | n + 1 => by
    have ih := sound_runS (W0 := W0) (A := A) hm hS n
    refine ⟨fun f args H r h => ?_, fun f args vs μ w H G v H' hr hv h => ?_⟩
    · simp only [runS] at h
      cases hs : S f with
      | some s => exact (hS f s hs).fn
      | none =>
        simp only [hs] at h
        cases hf : P.funcs[f]? with
        | none => simp [hf, fail] at h
        | some fn =>
          simp only [hf] at h
          by_cases hname : fn.name = "runtime.NumGoroutine"
          · rw [if_pos hname] at h; simp [fail] at h
          · rw [if_neg hname] at h
            cases hb : fn.body with
            | none => simp [body, hb, fail] at h
            | some c => exact ⟨fn, c, rfl, hb, hname⟩
    · simp only [runS] at h
      cases hs : S f with
      | some s => rw [hs] at h; exact (hS f s hs).calls hr hv h
      | none =>
        simp only [hs] at h
        cases hf : P.funcs[f]? with
        | none => simp [hf, fail] at h
        | some fn =>
          simp only [hf] at h
          by_cases hname : fn.name = "runtime.NumGoroutine"
          · rw [if_pos hname] at h; simp [fail] at h
          · rw [if_neg hname] at h
            cases hb : fn.body with
            | none => simp [body, hb, fail] at h
            | some c => exact sound_body ih (sound_evD hm ih) hf hb hr hv h

theorem runS_up {S : Sums} {A : FuncId → Ann} {P : Program} : ∀ (n : Nat) (f : FuncId) (args : List AV) (H : AH) (r : AV × AH), runS S A P n f args H = some r → runS S A P (n + 1) f args H = some r := by
  intro n
  induction n using Nat.strongRecOn with
  | _ n ih =>
    intro f args H r e
    cases n with
    | zero => simp [runS, fail] at e
    | succ n =>
      have ups : ∀ (a b : Nat), a ≤ b → b ≤ n + 1 → ∀ f args H r, runS S A P a f args H = some r → runS S A P b f args H = some r := by
        intro a b hab hb f args H r e
        induction b with
        | zero => have : a = 0 := by omega
                  subst this; exact e
        | succ b ihb =>
          by_cases hn : a = b + 1
          · subst hn; exact e
          · exact ih b (by omega) f args H r (ihb (by omega) (by omega))
      have hK : ∀ f args, Lim (fun m => runS S A P (min m (n + 1)) f args) (runS S A P (n + 1) f args) := by
        intro f args
        refine ⟨fun m H r e => ups _ _ (by omega) (by omega) f args H r e, fun H r => ⟨fun e => ⟨n + 1, by simpa using e⟩, fun ⟨m, e⟩ => ups _ _ (by omega) (by omega) f args H r e⟩⟩
      simp only [runS] at e ⊢
      cases hs : S f with
      | some s => simpa only [hs] using e
      | none =>
        simp only [hs] at e ⊢
        cases hf : P.funcs[f]? with
        | none => simp [hf, fail] at e
        | some fn =>
          simp only [hf] at e ⊢
          split at e
          · simp [fail] at e
          · rename_i hname
            rw [if_neg hname]
            have := (Sm.lim_body (P := P) (A := A f) (fn := fn) (args := args) hK).up n H r
            simp only [Nat.min_eq_left (Nat.le_succ n), Nat.min_self] at this
            exact this e

/-- What a function comes to, where S tells what some come to. -/
noncomputable def callS (S : Sums) (A : FuncId → Ann) (P : Program) (f : FuncId) (args : List AV) : M AV := limM fun n => runS S A P n f args
theorem callS_lim (S : Sums) (A : FuncId → Ann) (P : Program) (f : FuncId) (args : List AV) : Lim (fun n => runS S A P n f args) (callS S A P f args) := limM_lim fun n H r => runS_up n f args H r
theorem callS_sum {S : Sums} {A : FuncId → Ann} {P : Program} {f : FuncId} {s : List AV → M AV} (h : S f = some s) (args : List AV) : callS S A P f args = s args := by
  refine (callS_lim S A P f args).uniq (Lim.shift ?_ fun _ => rfl)
  have : (fun n => runS S A P (n + 1) f args) = fun _ => s args := by funext n; simp only [runS, h]
  rw [this]; exact Lim.const _
theorem callS_eq {S : Sums} {A : FuncId → Ann} {P : Program} {f : FuncId} {fn : Func} (hs : S f = none) (hf : P.funcs[f]? = some fn) (hn : fn.name ≠ "runtime.NumGoroutine") (args : List AV) :
    callS S A P f args = body P { K := callS S A P, L := loopW, D := evD } (A f) fn args := by
  refine (callS_lim S A P f args).uniq (Lim.shift ?_ fun _ => rfl)
  have : (fun n => runS S A P (n + 1) f args) = fun n => body P { K := runS S A P n, L := loopN n, D := evD } (A f) fn args := by
    funext n; simp only [runS, hs, hf, if_neg hn]
  rw [this]
  exact Sm.lim_body fun f args => callS_lim S A P f args
/-- What the machine with summaries comes to, the model's function comes to. -/
theorem calls_ofS {S : Sums} {A : FuncId → Ann} {P : Program} {W0 : World} (hm : P.follows .mixedOrders = true) (hS : GoodS P S) {G : Nat → Option Blk} {f : FuncId} {args : List AV} {vs : List Value} {μ : Mu} {w : World} {H H' : AH} {v : AV}
    (hr : RelG W0 μ w H G) (hv : VRL μ args vs) (h : callS S A P f args H = some (v, H')) :
    Calls P f ⟨vs⟩ w fun e w' => ∃ v' μ', e = .returned v' ∧ Lx H.nx μ H'.nx μ' ∧ RelG W0 μ' w' H' G ∧ VR μ' v v' := by
  obtain ⟨n, hn⟩ := ((callS_lim S A P f args).to H (v, H')).1 h
  exact (sound_runS hm hS n).calls f args vs μ w H G v H' hr hv hn
end Go.Ab
