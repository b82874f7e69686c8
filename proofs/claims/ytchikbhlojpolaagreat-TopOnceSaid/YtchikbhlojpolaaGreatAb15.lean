/- The abstract machine stands for the model: functions. -/
import Derived.Test.YtchikbhlojpolaaGreatAb14
namespace Go.Ab
open Go Go.RowKit

theorem argE_get : ∀ (args : List AV) (i t : Nat) (x : AV), (argE i args).get t = some x → i ≤ t ∧ args[t - i]? = some x
  | [], i, t, x, h => by simp [argE, Env.get] at h
  | v :: vs, i, t, x, h => by
    simp only [argE, Env.get] at h
    by_cases e : i = t
    · subst e; simp at h; subst h; simp
    · rw [if_neg e] at h
      obtain ⟨h1, h2⟩ := argE_get vs (i + 1) t x h
      refine ⟨by omega, ?_⟩
      rw [show t - i = (t - (i + 1)) + 1 by omega]
      simpa using h2

theorem sound_run {P : Program} {W0 : World} {D : PlanL → Program → Calls? → Array Oper → (Env → M Out) → Env → M Out} {A : FuncId → Ann} (hD : ∀ K, SoundK P W0 K → SoundD P W0 D K) : ∀ n, SoundK P W0 (run D A P n)
  | 0 => ⟨fun f args H r h => by simp [run, fail] at h, fun f args vs μ w H G v H' _ _ h => by simp [run, fail] at h⟩
  | n + 1 => by
    have ih := sound_run (A := A) hD n
    refine ⟨fun f args H r h => ?_, fun f args vs μ w H G v H' hr hv h => ?_⟩
    · cases hf : P.funcs[f]? with
      | none => simp [run, hf, fail] at h
      | some fn =>
        simp only [run, hf] at h
        by_cases hname : fn.name = "runtime.NumGoroutine"
        · rw [if_pos hname] at h; simp [fail] at h
        · rw [if_neg hname] at h
          cases hb : fn.body with
          | none => simp [body, hb, fail] at h
          | some c => exact ⟨fn, c, rfl, hb, hname⟩
    · cases hf : P.funcs[f]? with
      | none => simp [run, hf, fail] at h
      | some fn =>
        simp only [run, hf] at h
        by_cases hname : fn.name = "runtime.NumGoroutine"
        · rw [if_pos hname] at h; simp [fail] at h
        · rw [if_neg hname] at h
          cases hb : fn.body with
          | none => simp [body, hb, fail] at h
          | some c =>
            simp only [body, hb] at h
            split at h
            · rename_i hst
              simp only [Bool.and_eq_true, List.all_eq_true, decide_eq_true_eq] at hst
              obtain ⟨hst1, hst2⟩ := hst
              simp only [bnd] at h
              split at h
              · rename_i out H1 ho
                have hlen := hv.length
                refine calls_of_wp hf hb ?_
                have hsz : ((⟨vs⟩ : Array Value) ++ Array.replicate (fn.ntmps - (⟨vs⟩ : Array Value).size) undef).size = fn.ntmps := by simp; omega
                have hfin : ∀ (e : Exit) (vs' : List AV) (μ' : Mu) (a' : Act) (w' : World), (e = .normal ∨ e = .ret) → out = .ret vs' → Lx H.nx μ H1.nx μ' → RelG W0 μ' w' H1 G → ResRel P fn μ' vs' a' w' → a'.defers = [] →
                    bodyPost P fn (fun e w' => ∃ v' μ', e = .returned v' ∧ Lx H.nx μ H'.nx μ' ∧ RelG W0 μ' w' H' G ∧ VR μ' v v') e a' w' := by
                  intro e vs' μ' a' w' he h1 h2 h3 h4 h5
                  subst h1
                  simp only [ret, Option.some.injEq, Prod.mk.injEq] at h
                  obtain ⟨rfl, rfl⟩ := h
                  obtain ⟨u, k1, k2⟩ := h4
                  rcases he with rfl | rfl <;> exact ⟨h5, u, k1, u, μ', rfl, h2, h3, k2⟩
                refine sound_code (fn := fn) (C := { K := run D A P n, L := loopN n, D := D }) ih (hD _ ih) rfl c (A f) [] _ (argE 0 args) _ μ w H out H1 _ hr ?_ ?_ ho ?_ ?_ ?_
                · intro t x e
                  obtain ⟨_, h2⟩ := argE_get _ _ _ _ e
                  obtain ⟨u, k1, k2⟩ := hv.get h2
                  simp only [Nat.sub_zero] at k1
                  have ht : t < vs.length := by
                    rcases Nat.lt_or_ge t vs.length with h' | h'
                    · exact h'
                    · simp [List.getElem?_eq_none h'] at k1
                  have : ((⟨vs⟩ : Array Value) ++ Array.replicate (fn.ntmps - (⟨vs⟩ : Array Value).size) undef).getD t undef = u := by
                    rw [Array.getD_eq_getD_getElem?, Array.getElem?_append_left (by simpa using ht)]
                    simp [k1]
                  rw [this]
                  exact k2
                · intro d hd
                  rw [hsz]
                  exact hst1 d hd
                · intro μ' E' a' w' H2 l r e k he
                  simp only [bnd] at he
                  split at he
                  · rename_i vs' H3 h3
                    simp only [ret, Option.some.injEq, Prod.mk.injEq] at he
                    obtain ⟨rfl, rfl⟩ := he
                    obtain ⟨rfl, hres⟩ := resRel_of r e h3
                    exact hfin .normal vs' μ' a' w' (.inl rfl) rfl l r hres k.defers
                  · cases he
                · intro id ws ks μ' a' w' _ h2
                  simp at h2
                · intro vs' μ' a' w' h1 l r hres k
                  exact hfin .ret vs' μ' a' w' (.inr rfl) h1 l r hres k.defers
              · cases h
            · simp [fail] at h
end Go.Ab
