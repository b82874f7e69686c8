/- The abstract machine stands for the model: code, functions. -/
import Derived.Test.YtchikbhlojpolaaGreatAb13
namespace Go.Ab
open Go Go.RowKit

section
variable {P : Program} {W0 : World} {G : Nat → Option Blk} {K : Calls?}

theorem get_emb : ∀ (ks : List Nat) (i : Nat) (ws : List AV) (t : Nat) (x : AV), (emb ks i ws).get t = some x → ∃ j, ks[j]? = some t ∧ x = ws.getD (i + j) undefA ∧ ∀ j', j' < j → ks[j']? ≠ some t
  | [], i, ws, t, x, h => by simp [emb, Env.get] at h
  | k :: ks, i, ws, t, x, h => by
    simp only [emb, Env.get] at h
    by_cases e : k = t
    · subst e
      simp at h
      exact ⟨0, rfl, by simp [h], fun j' hj => by omega⟩
    · rw [if_neg e] at h
      obtain ⟨j, h1, h2, h3⟩ := get_emb ks (i + 1) ws t x h
      refine ⟨j + 1, by simpa using h1, by rw [h2]; congr 1; omega, fun j' hj => ?_⟩
      cases j' with
      | zero => simpa using e
      | succ j' => simpa using h3 j' (by omega)
theorem get_dropE : ∀ (wr : List Nat) (E : Env) (t : Nat) (x : AV), (dropE wr E).get t = some x → t ∉ wr ∧ E.get t = some x
  | wr, [], t, x, h => by simp [dropE, Env.get] at h
  | wr, (k, v) :: E, t, x, h => by
    simp only [dropE] at h
    split at h
    · rename_i hc
      obtain ⟨h1, h2⟩ := get_dropE wr E t x h
      refine ⟨h1, ?_⟩
      simp only [Env.get]
      rw [if_neg (fun e => h1 (by rw [← e]; simpa using hc))]
      exact h2
    · rename_i hc
      simp only [Env.get] at h ⊢
      by_cases e : k = t
      · subst e
        simp at h ⊢
        exact ⟨by simpa using hc, h⟩
      · rw [if_neg e] at h ⊢
        exact get_dropE wr E t x h
theorem get_append {E F : Env} {t : Nat} {x : AV} (h : Env.get (E ++ F) t = some x) : E.get t = some x ∨ (E.get t = none ∧ F.get t = some x) := by
  induction E with
  | nil => exact .inr ⟨rfl, h⟩
  | cons p E ih =>
    obtain ⟨k, v⟩ := p
    simp only [List.cons_append, Env.get] at h ⊢
    by_cases e : k = t
    · rw [if_pos e] at h ⊢; exact .inl h
    · rw [if_neg e] at h ⊢; exact ih h
theorem pick_get : ∀ (ks : List Nat) (E : Env) (ws : List AV), pick E ks = some ws → ws.length = ks.length ∧ ∀ j k, ks[j]? = some k → E.get k = some (ws.getD j undefA)
  | [], E, ws, h => by simp [pick] at h; subst h; simp
  | k :: ks, E, ws, h => by
    simp only [pick] at h
    split at h
    · rename_i v vs h1 h2
      cases h
      obtain ⟨q1, q2⟩ := pick_get ks E vs h2
      refine ⟨by simp [q1], fun j k' e => ?_⟩
      cases j with
      | zero => simp at e; subst e; simpa using h1
      | succ j => simpa using q2 j k' (by simpa using e)
    · cases h

/-- The slots ks hold the values ws. -/
def Holds (μ : Mu) (ks : List Nat) (ws : List AV) (a : Act) : Prop := EnvRel μ (emb ks 0 ws) a
theorem holds_of_pick {μ : Mu} {ks : List Nat} {E : Env} {ws : List AV} {a : Act} (h : pick E ks = some ws) (hE : EnvRel μ E a) : Holds μ ks ws a := by
  intro t x e
  obtain ⟨j, h1, h2, _⟩ := get_emb _ _ _ _ _ e
  obtain ⟨q1, q2⟩ := pick_get _ _ _ h
  have := q2 j t h1
  rw [h2, Nat.zero_add]
  exact hE _ _ this
theorem Holds.mono {μ μ' : Mu} {ks : List Nat} {ws : List AV} {a : Act} (h : Holds μ ks ws a) (hl : Le μ μ') : Holds μ' ks ws a := EnvRel.mono h hl
/-- Behind a part of the code: the slots that it handed on, and those that it did not write. -/
theorem after_rel {μ μ' : Mu} {wr ks : List Nat} {ws : List AV} {E : Env} {a a' : Act} (hE : EnvRel μ E a) (hl : Le μ μ') (hk : Kept wr a a') (hh : Holds μ' ks ws a') : EnvRel μ' (after wr ks ws E) a' := by
  intro t x e
  rcases get_append e with e | ⟨_, e⟩
  · exact hh t x e
  · obtain ⟨h1, h2⟩ := get_dropE _ _ _ _ e
    rw [hk.slot t h1]
    exact (hE t x h2).mono hl

theorem loadVar_ld {μ : Mu} {w : World} {H H2 : AH} {x y : AV} {v : Value} {t : TypeId} (hr : RelG W0 μ w H G) (hx : VR μ x v) (ht : aggT P t = some false) (h : ld x H = some (y, H2)) :
    H2 = H ∧ ∃ u, (do loadVar t (← asAddr v) : Sem Value).run P w = .ok u w ∧ VR μ y u := by
  cases hx with
  | @ptr b o l hl =>
    simp only [Ab.ld, ld1] at h
    cases hq : H.rd1 (b, o) with
    | none => simp [hq] at h
    | some z =>
      simp only [hq, Option.map_some, Option.some.injEq, Prod.mk.injEq] at h
      obtain ⟨rfl, rfl⟩ := h
      obtain ⟨u, h1, h2, _⟩ := rd1_cell hr hl hq
      exact ⟨rfl, u, by simp [asAddr, loadVar, run_isAgg ht, h1], h2⟩
  | _ => simp [Ab.ld, fail] at h
theorem loadVar_lda {μ : Mu} {w : World} {H H2 : AH} {x y : AV} {v : Value} {t : TypeId} {n : Nat} (hr : RelG W0 μ w H G) (hx : VR μ x v) (ht : aggT P t = some true) (hn : szOf P t = some n) (h : lda n x H = some (y, H2)) :
    H2 = H ∧ ∃ u, (do loadVar t (← asAddr v) : Sem Value).run P w = .ok u w ∧ VR μ y u := by
  cases hx with
  | @ptr b o l hl =>
    simp only [Ab.lda, bnd, ldn] at h
    cases hq : H.rd (b, o) n with
    | none => simp [hq] at h
    | some z =>
      simp only [hq, Option.map_some, ret, Option.some.injEq, Prod.mk.injEq] at h
      obtain ⟨rfl, rfl⟩ := h
      obtain ⟨vs, h1, h2, h3, h4⟩ := rd_cells hr hl hq
      exact ⟨rfl, .agg vs.toArray, by simp [asAddr, loadVar, run_isAgg ht, run_sizeOf hn, run_loadCells P w _ _ n vs h1 h4], .agg h2 h3⟩
  | _ => simp [Ab.lda, fail] at h
def resSem (a : Act) : ResultVar → Sem Value
  | .tmp t => pure (a.tmps.getD t undef)
  | .cell ad t => do loadVar t (← asAddr (a.tmps.getD ad undef))
theorem run_resVar {μ : Mu} {w : World} {H : AH} {E : Env} {a : Act} (hr : RelG W0 μ w H G) (hE : EnvRel μ E a) : ∀ (rs : List ResultVar) (vs : List AV) (H1 : AH), resA P E rs H = some (vs, H1) →
    H1 = H ∧ ∃ us : List Value, (rs.mapM (resSem a)).run P w = Result.ok us w ∧ VRL μ vs us
  | [], vs, H1, h => by simp [resA, ret] at h; obtain ⟨rfl, rfl⟩ := h; exact ⟨rfl, [], by simp, .nil⟩
  | .tmp t :: rs, vs, H1, h => by
    simp only [resA, need] at h
    cases ht : E.get t with
    | none => simp [ht, fail] at h
    | some x =>
      simp only [ht, bnd] at h
      split at h
      · rename_i vs' H2 h2
        simp only [ret, Option.some.injEq, Prod.mk.injEq] at h
        obtain ⟨rfl, rfl⟩ := h
        obtain ⟨e, us, q1, q2⟩ := run_resVar hr hE rs vs' H2 h2
        exact ⟨e, a.tmps.getD t undef :: us, by simp only [List.mapM_cons, resSem, Sem.run_bind, Sem.run_pure, Result.andThen_ok, q1], .cons (hE _ _ ht) q2⟩
      · cases h
  | .cell ad t :: rs, vs, H1, h => by
    simp only [resA, need] at h
    cases ht : E.get ad with
    | none => simp [ht, fail] at h
    | some x =>
      cases hg : aggT P t with
      | none => simp [ht, hg, fail] at h
      | some g =>
        simp only [ht, hg, bnd] at h
        split at h
        · rename_i y H2 h2
          split at h
          · rename_i vs' H3 h3
            simp only [ret, Option.some.injEq, Prod.mk.injEq] at h
            obtain ⟨rfl, rfl⟩ := h
            have hx := hE _ _ ht
            have key : H2 = H ∧ ∃ u, (do loadVar t (← asAddr (a.tmps.getD ad undef)) : Sem Value).run P w = .ok u w ∧ VR μ y u := by
              cases g with
              | false => exact loadVar_ld hr hx hg h2
              | true =>
                simp only [if_true] at h2
                cases hn : szOf P t with
                | none => simp [hn, fail] at h2
                | some n => simp only [hn] at h2; exact loadVar_lda hr hx hg hn h2
            obtain ⟨rfl, u, k1, k2⟩ := key
            obtain ⟨e, us, q1, q2⟩ := run_resVar hr hE rs vs' H3 h3
            exact ⟨e, u :: us, by simp only [List.mapM_cons, Sem.run_bind, resSem]; simp only [Sem.run_bind] at k1; rw [k1]; simp only [Result.andThen_ok, q1, Sem.run_pure], .cons k2 q2⟩
          · cases h
        · cases h

/-- What a function gives back, with what its code has left. -/
def ResRel (P : Program) (fn : Func) (μ : Mu) (vs : List AV) (a : Act) (w : World) : Prop := ∃ v, (results fn a.tmps).run P w = .ok v w ∧ VR μ (packA vs) v
theorem resRel_of {μ : Mu} {w : World} {H H1 : AH} {E : Env} {a : Act} {fn : Func} {vs : List AV} (hr : RelG W0 μ w H G) (hE : EnvRel μ E a) (h : resA P E fn.results.toList H = some (vs, H1)) : H1 = H ∧ ResRel P fn μ vs a w := by
  obtain ⟨e, us, h1, h2⟩ := run_resVar hr hE _ _ _ h
  refine ⟨e, (if h : us.toArray.size = 1 then us.toArray[0] else .tuple us.toArray), ?_, ?_⟩
  · have hm : (fn.results.mapM (resSem a)).run P w = .ok us.toArray w := by
      rw [← Array.toArray_toList (xs := fn.results), List.mapM_toArray]
      simp only [Sem.run_map, h1, Result.andThen_ok]
    have hres : results fn a.tmps = (fn.results.mapM (resSem a) >>= fun vs => pure (if h : vs.size = 1 then vs[0] else .tuple vs)) := by
      unfold results
      refine congrArg (fun m : Sem (Array Value) => m >>= fun vs => (pure (if h : vs.size = 1 then vs[0] else Value.tuple vs) : Sem Value)) ?_
      refine congrArg (fun f => fn.results.mapM f) (funext fun r => ?_)
      cases r <;> rfl
    rw [hres]
    simp only [Sem.run_bind, hm, Result.andThen_ok, Sem.run_pure]
  · cases h2 with
    | nil => exact .tup .nil
    | cons hx t =>
      cases t with
      | nil => simpa [packA] using hx
      | cons hy t => simp only [packA]; rw [dif_neg (by simp)]; exact .tup (.cons hx (.cons hy t))

/-- The regions that draw their order stand for the model's. -/
def SoundD (P : Program) (W0 : World) (D : PlanL → Program → Calls? → Array Oper → (Env → M Out) → Env → M Out) (K : Calls?) : Prop :=
  ∀ (q : PlanL) (G : Nat → Option Blk) (id : Nat) (ops : Array Oper) (k : Env → M Out) (E : Env) (a : Act) (μ : Mu) (w : World) (H : AH) (out : Out) (H' : AH) (Q : Exit → Act → World → Prop),
    RelG W0 μ w H G → EnvRel μ E a → (∀ o ∈ ops.toList, ∀ d, o.dst = some d → d < a.tmps.size) → D q P K ops k E H = some (out, H') →
    (∀ μ' E' a' w' H1, Lx H.nx μ H1.nx μ' → RelG W0 μ' w' H1 G → EnvRel μ' E' a' → Kept (ops.toList.filterMap (·.dst)) a a' → k E' H1 = some (out, H') → Q .normal a' w') →
    (Code.region id ops true).wp P Q a w

theorem sound_code {C : Cfg} {n : Nat} {fn : Func} (hK : SoundK P W0 C.K) (hD : SoundD P W0 C.D C.K) (hL : C.L = loopN n) : ∀ (c : Code) (x : Ann) (B : List (Nat × List Nat)) (k : Env → M Out) (E : Env) (a : Act) (μ : Mu) (w : World) (H : AH) (out : Out) (H' : AH) (Q : Exit → Act → World → Prop),
    RelG W0 μ w H G → EnvRel μ E a → (∀ d ∈ writes c, d < a.tmps.size) → evK P C fn.results.toList c x B k E H = some (out, H') →
    (∀ μ' E' a' w' H1, Lx H.nx μ H1.nx μ' → RelG W0 μ' w' H1 G → EnvRel μ' E' a' → Kept (writes c) a a' → k E' H1 = some (out, H') → Q .normal a' w') →
    (∀ id ws ks μ' a' w', out = .ext id ws → B.lookup id = some ks → Lx H.nx μ H'.nx μ' → RelG W0 μ' w' H' G → Holds μ' ks ws a' → Kept (writes c) a a' → Q (.exit id) a' w') →
    (∀ vs μ' a' w', out = .ret vs → Lx H.nx μ H'.nx μ' → RelG W0 μ' w' H' G → ResRel P fn μ' vs a' w' → Kept (writes c) a a' → Q .ret a' w') →
    c.wp P Q a w := by
  intro c
  induction c with
  | skip =>
    intro x B k E a μ w H out H' Q hr hE hd he hN _ _
    simp only [evK] at he
    exact wp_skip (hN μ E a w H (Lx.refl _ _) hr hE (Kept.refl _ _) he)
  | label l =>
    intro x B k E a μ w H out H' Q hr hE hd he hN _ _
    simp only [evK] at he
    exact wp_label (hN μ E a w H (Lx.refl _ _) hr hE (Kept.refl _ _) he)
  | region id ops draw =>
    intro x B k E a μ w H out H' Q hr hE hd he hN _ _
    have hd' : ∀ o ∈ ops.toList, ∀ d, o.dst = some d → d < a.tmps.size := fun o ho d e => hd d (by simp only [writes, List.mem_filterMap]; exact ⟨o, ho, e⟩)
    cases draw with
    | false =>
      simp only [evK] at he
      refine wp_region ?_
      have := sound_ops hK (Q := Q) ops.toList 0 k E a μ w H (fun j o h => by simpa using h) hr hE hd' he hN
      rw [List.range_eq_range', ← Array.length_toList]
      exact this
    | true =>
      cases x <;> try (simp [evK, fail] at he; done)
      rename_i q
      simp only [evK] at he
      exact hD q G id ops k E a μ w H out H' Q hr hE hd' he hN
  | seq c1 c2 ih1 ih2 =>
    intro x B k E a μ w H out H' Q hr hE hd he hN hX hR
    cases x with
    | seq x1 x2 =>
      simp only [evK] at he
      refine wp_seq (ih1 x1 B _ E a μ w H out H' _ hr hE (fun d h => hd d (by simp [writes, h])) he ?_ ?_ ?_)
      · intro μ1 E1 a1 w1 H1 l1 r1 e1 k1 he1
        refine ih2 x2 B k E1 a1 μ1 w1 H1 out H' Q r1 e1 (fun d h => by rw [k1.size]; exact hd d (by simp [writes, h])) he1 ?_ ?_ ?_
        · exact fun μ2 E2 a2 w2 H2 l2 r2 e2 k2 he2 => hN μ2 E2 a2 w2 H2 (l1.trans l2) r2 e2 (k1.trans k2) he2
        · exact fun id ws ks μ2 a2 w2 h1 h2 l2 r2 e2 k2 => hX id ws ks μ2 a2 w2 h1 h2 (l1.trans l2) r2 e2 (k1.trans k2)
        · exact fun vs μ2 a2 w2 h1 l2 r2 e2 k2 => hR vs μ2 a2 w2 h1 (l1.trans l2) r2 e2 (k1.trans k2)
      · exact fun id ws ks μ2 a2 w2 h1 h2 l2 r2 e2 k2 => hX id ws ks μ2 a2 w2 h1 h2 l2 r2 e2 (k2.mono fun t ht => by simp [writes, ht])
      · exact fun vs μ2 a2 w2 h1 l2 r2 e2 k2 => hR vs μ2 a2 w2 h1 l2 r2 e2 (k2.mono fun t ht => by simp [writes, ht])
    | _ => simp [evK, fail] at he
  | cond c c1 c2 ih1 ih2 =>
    intro x B k E a μ w H out H' Q hr hE hd he hN hX hR
    cases x with
    | cond ks x1 x2 =>
      simp only [evK, need] at he
      cases hc : opv E.get c with
      | none => simp [hc, fail] at he
      | some cv =>
        simp only [hc] at he
        cases cv with
        | bool t =>
          have hav := VR.bool_inv (LookRel.opv hE _ _ hc)
          simp only [iteM] at he
          have branch : ∀ (c' : Code) (x' : Ann), (∀ d ∈ writes c', d ∈ writes c1 ++ writes c2) →
              (∀ (x : Ann) (B : List (Nat × List Nat)) (k : Env → M Out) (E : Env) (a : Act) (μ : Mu) (w : World) (H : AH) (out : Out) (H' : AH) (Q : Exit → Act → World → Prop),
                RelG W0 μ w H G → EnvRel μ E a → (∀ d ∈ writes c', d < a.tmps.size) → evK P C fn.results.toList c' x B k E H = some (out, H') →
                (∀ μ' E' a' w' H1, Lx H.nx μ H1.nx μ' → RelG W0 μ' w' H1 G → EnvRel μ' E' a' → Kept (writes c') a a' → k E' H1 = some (out, H') → Q .normal a' w') →
                (∀ id ws ks μ' a' w', out = .ext id ws → B.lookup id = some ks → Lx H.nx μ H'.nx μ' → RelG W0 μ' w' H' G → Holds μ' ks ws a' → Kept (writes c') a a' → Q (.exit id) a' w') →
                (∀ vs μ' a' w', out = .ret vs → Lx H.nx μ H'.nx μ' → RelG W0 μ' w' H' G → ResRel P fn μ' vs a' w' → Kept (writes c') a a' → Q .ret a' w') → c'.wp P Q a w) →
              bnd (evK P C fn.results.toList c' x' B (fin ks) E) (dsp fun ws => k (after (writes c1 ++ writes c2) ks ws E)) H = some (out, H') → c'.wp P Q a w := by
            intro c' x' hsub ih he
            simp only [bnd] at he
            split at he
            · rename_i o H1 ho
              refine ih x' B (fin ks) E a μ w H o H1 Q hr hE (fun d h => hd d (hsub d h)) ho ?_ ?_ ?_
              · intro μ1 E1 a1 w1 H2 l1 r1 e1 k1 he1
                simp only [fin, need] at he1
                cases hp : pick E1 ks with
                | none => simp [hp, fail] at he1
                | some ws =>
                  simp only [hp, ret, Option.some.injEq, Prod.mk.injEq] at he1
                  obtain ⟨rfl, rfl⟩ := he1
                  simp only [dsp] at he
                  have k1' := k1.mono hsub
                  exact hN μ1 _ a1 w1 H2 l1 r1 (after_rel hE l1.le k1' (holds_of_pick hp e1)) k1' he
              · intro id ws ks' μ1 a1 w1 h1 h2 l1 r1 e1 k1
                subst h1
                simp only [dsp, ret, Option.some.injEq, Prod.mk.injEq] at he
                obtain ⟨rfl, rfl⟩ := he
                exact hX id ws ks' μ1 a1 w1 rfl h2 l1 r1 e1 (k1.mono hsub)
              · intro vs μ1 a1 w1 h1 l1 r1 e1 k1
                subst h1
                simp only [dsp, ret, Option.some.injEq, Prod.mk.injEq] at he
                obtain ⟨rfl, rfl⟩ := he
                exact hR vs μ1 a1 w1 rfl l1 r1 e1 (k1.mono hsub)
            · cases he
          refine wp_cond hav ?_
          cases t with
          | true =>
            simp only [if_true] at he ⊢
            exact branch c1 x1 (fun d h => by simp [h]) ih1 he
          | false =>
            simp only [Bool.false_eq_true, if_false] at he ⊢
            exact branch c2 x2 (fun d h => by simp [h]) ih2 he
        | _ => simp [iteM, bnd, fail] at he
    | _ => simp [evK, fail] at he
  | block id c1 ih =>
    intro x B k E a μ w H out H' Q hr hE hd he hN hX hR
    cases x with
    | block ks x1 =>
      simp only [evK, bnd] at he
      split at he
      · rename_i o H1 ho
        refine wp_block (ih x1 ((id, ks) :: B) (fin ks) E a μ w H o H1 _ hr hE hd ho ?_ ?_ ?_)
        · intro μ1 E1 a1 w1 H2 l1 r1 e1 k1 he1
          simp only [fin, need] at he1
          cases hp : pick E1 ks with
          | none => simp [hp, fail] at he1
          | some ws =>
            simp only [hp, ret, Option.some.injEq, Prod.mk.injEq] at he1
            obtain ⟨rfl, rfl⟩ := he1
            simp only [dspB] at he
            exact hN μ1 _ a1 w1 H2 l1 r1 (after_rel hE l1.le k1 (holds_of_pick hp e1)) k1 he
        · intro id' ws ks' μ1 a1 w1 h1 h2 l1 r1 e1 k1
          subst h1
          simp only [dspB] at he
          simp only [Exit.inBlock]
          by_cases hid : id' = id
          · rw [if_pos hid] at he ⊢
            subst hid
            have : ks' = ks := by simpa [List.lookup] using h2.symm
            subst this
            exact hN μ1 _ a1 w1 H1 l1 r1 (after_rel hE l1.le k1 e1) k1 he
          · rw [if_neg hid] at he ⊢
            simp only [ret, Option.some.injEq, Prod.mk.injEq] at he
            obtain ⟨rfl, rfl⟩ := he
            refine hX id' ws ks' μ1 a1 w1 rfl ?_ l1 r1 e1 k1
            rw [List.lookup_cons] at h2
            have : (id' == id) = false := by simpa using hid
            simpa [this] using h2
        · intro vs μ1 a1 w1 h1 l1 r1 e1 k1
          subst h1
          simp only [dspB, ret, Option.some.injEq, Prod.mk.injEq] at he
          obtain ⟨rfl, rfl⟩ := he
          exact hR vs μ1 a1 w1 rfl l1 r1 e1 k1
      · cases he
    | _ => simp [evK, fail] at he
  | loop c1 ih =>
    intro x B k E a μ w H out H' Q hr hE hd he hN hX hR
    cases x with
    | loop ks x1 =>
      simp only [evK, need] at he
      cases hp : pick E ks with
      | none => simp [hp, fail] at he
      | some ws =>
        simp only [hp, bnd, hL] at he
        split at he
        · rename_i o H1 ho
          -- the loop never ends of itself
          have hnn : ∀ (n : Nat) (f : List AV → M Out) ws H o H1, loopN n f ws H = some (o, H1) → ∀ ws', o ≠ .nrm ws' := by
            intro n
            induction n with
            | zero => intro f ws H o H1 h; simp [loopN, fail] at h
            | succ n ihn =>
              intro f ws H o H1 h ws' e
              simp only [loopN, bnd] at h
              split at h
              · rename_i o2 H2 h2
                cases o2 with
                | nrm ws2 => exact ihn f ws2 H2 o H1 h ws' e
                | ext id ws2 => simp [ret] at h; rw [← h.1] at e; cases e
                | ret vs => simp [ret] at h; rw [← h.1] at e; cases e
              · cases h
          have hout : out = o ∧ H' = H1 := by
            cases ho2 : o with
            | nrm ws' => exact absurd ho2 (hnn _ _ _ _ _ _ ho ws')
            | ext id ws' => subst ho2; simp only [dsp, ret, Option.some.injEq, Prod.mk.injEq] at he; exact ⟨he.1.symm, he.2.symm⟩
            | ret vs => subst ho2; simp only [dsp, ret, Option.some.injEq, Prod.mk.injEq] at he; exact ⟨he.1.symm, he.2.symm⟩
          obtain ⟨rfl, rfl⟩ := hout
          refine wp_loop_rounds n ?_
          have key : ∀ (n : Nat) (ws : List AV) (a1 : Act) (μ1 : Mu) (w1 : World) (H1 : AH), Lx H.nx μ H1.nx μ1 → RelG W0 μ1 w1 H1 G → Holds μ1 ks ws a1 → Kept (writes c1) a a1 →
              loopN n (fun ws => evK P C fn.results.toList c1 x1 B (fin ks) (after (writes c1) ks ws E)) ws H1 = some (out, H') → Code.rounds P c1 Q n a1 w1 := by
            intro n
            induction n with
            | zero => intro ws a1 μ1 w1 H1 _ _ _ _ h; simp [loopN, fail] at h
            | succ n ihn =>
              intro ws a1 μ1 w1 H1 l1 r1 h1 k1 h
              rw [rounds_succ]
              simp only [loopN, bnd] at h
              split at h
              · rename_i o2 H2 h2
                refine ih x1 B (fin ks) _ a1 μ1 w1 H1 o2 H2 _ r1 (after_rel hE l1.le k1 h1) (fun d hd' => by rw [k1.size]; exact hd d hd') h2 ?_ ?_ ?_
                · intro μ2 E2 a2 w2 H3 l2 r2 e2 k2 he2
                  simp only [fin, need] at he2
                  cases hp2 : pick E2 ks with
                  | none => simp [hp2, fail] at he2
                  | some ws2 =>
                    simp only [hp2, ret, Option.some.injEq, Prod.mk.injEq] at he2
                    obtain ⟨rfl, rfl⟩ := he2
                    simp only at h
                    refine ihn ws2 a2 μ2 w2 H3 (l1.trans l2) r2 (holds_of_pick hp2 e2) ((k1.trans k2).mono fun t ht => by simpa [writes] using ht) h
                · intro id ws2 ks' μ2 a2 w2 q1 q2 l2 r2 e2 k2
                  subst q1
                  simp only [ret, Option.some.injEq, Prod.mk.injEq] at h
                  obtain ⟨rfl, rfl⟩ := h
                  exact hX id ws2 ks' μ2 a2 w2 rfl q2 (l1.trans l2) r2 e2 ((k1.trans k2).mono fun t ht => by simpa [writes] using ht)
                · intro vs μ2 a2 w2 q1 l2 r2 e2 k2
                  subst q1
                  simp only [ret, Option.some.injEq, Prod.mk.injEq] at h
                  obtain ⟨rfl, rfl⟩ := h
                  exact hR vs μ2 a2 w2 rfl (l1.trans l2) r2 e2 ((k1.trans k2).mono fun t ht => by simpa [writes] using ht)
              · cases h
          exact key n ws a μ w H (Lx.refl _ _) hr (holds_of_pick hp hE) (Kept.refl _ _) ho
        · cases he
    | _ => simp [evK, fail] at he
  | exit id =>
    intro x B k E a μ w H out H' Q hr hE hd he hN hX hR
    simp only [evK, need] at he
    cases hb : B.lookup id with
    | none => simp [hb, fail] at he
    | some ks =>
      cases hp : pick E ks with
      | none => simp [hb, hp, fail] at he
      | some ws =>
        simp only [hb, hp, ret, Option.some.injEq, Prod.mk.injEq] at he
        obtain ⟨rfl, rfl⟩ := he
        exact wp_exit (hX id ws ks μ a w rfl hb (Lx.refl _ _) hr (holds_of_pick hp hE) (Kept.refl _ _))
  | ret =>
    intro x B k E a μ w H out H' Q hr hE hd he hN hX hR
    simp only [evK, bnd] at he
    split at he
    · rename_i vs H1 h1
      simp only [Ab.ret, Option.some.injEq, Prod.mk.injEq] at he
      obtain ⟨rfl, rfl⟩ := he
      obtain ⟨rfl, h2⟩ := resRel_of hr hE h1
      exact wp_ret (hR vs μ a w rfl (Lx.refl _ _) hr h2 (Kept.refl _ _))
    · cases he
  | rangeFunc f ps as b ih1 ih2 =>
    intro x B k E a μ w H out H' Q hr hE hd he hN hX hR
    simp [evK, fail] at he
  | scope c ih =>
    intro x B k E a μ w H out H' Q hr hE hd he hN hX hR
    simp [evK, fail] at he
  | goto l =>
    intro x B k E a μ w H out H' Q hr hE hd he hN hX hR
    simp [evK, fail] at he
  | refuse why =>
    intro x B k E a μ w H out H' Q hr hE hd he hN hX hR
    simp [evK, fail] at he
end
end Go.Ab
