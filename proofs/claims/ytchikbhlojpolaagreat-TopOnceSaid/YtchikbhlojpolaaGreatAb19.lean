/- The abstract machine: regions that draw their order stand for the model's: the whole. -/
import Derived.Test.YtchikbhlojpolaaGreatAb18
namespace Go.Ab
open Go Go.RowKit

section
variable {P : Program} {W0 : World} {G : Nat → Option Blk} {K : Calls?} {ops : Array Oper}

theorem LookRel.put {μ : Mu} {g : Look} {a : Act} (h : LookRel μ g a) {dst : Option Nat} {x : AV} {v : Value} (hd : ∀ d, dst = some d → d < a.tmps.size) (hx : VR μ x v) : LookRel μ (g.put dst x) (a.put dst v) := by
  cases dst with
  | none => exact h
  | some d =>
    intro t y e
    rw [getD_put (hd d rfl)]
    simp only [Look.put] at e
    by_cases ht : t = d
    · rw [if_pos ht] at e ⊢; cases e; exact hx
    · rw [if_neg ht] at e ⊢; exact h t y e

theorem relG_congr {μ : Mu} {w : World} {H H' : AH} {A B : Nat → Option Blk} (h : RelG W0 μ w H A) (hp : ∀ b, (H'.plus B).bk b = (H.plus A).bk b) (hn : H'.nx = H.nx) (hd : ∀ b, (H'.bk b).isSome = true → B b = none) : RelG W0 μ w H' B :=
  ⟨h.rel.drop (fun b x hx => by rw [← hp b]; exact hx) (by rw [show (H'.plus B).nx = H'.nx from rfl, hn]; exact Nat.le_refl _), hd⟩

theorem sound_dr (hK : SoundK P W0 K) {q : PlanL} (hq : PlanOk P ops q) {n0 : Nat} {α : Type} {k : DS → M α} {out : α} {Hf : AH} {Q : Exit → Act → World → Prop} {a0 : Act} {μ0 : Mu} (hG0 : ∀ b, n0 ≤ b → G b = none)
    (hn : ∀ μ' S' a' w' H1, Lx n0 μ0 H1.nx μ' → RelG W0 μ' w' H1 (joinG S'.G G) → (∀ b x, S'.G b = some x → ∃ f, b = n0 + f ∧ q.flt.contains f = true) → LookRel μ' S'.g a' → Kept (ops.toList.filterMap (·.dst)) a0 a' → k S' H1 = some (out, Hf) → Q .normal a' w') :
    ∀ (m : Nat) (L : List Nat) (listed : Array Bool) (S : DS) (a : Act) (μ : Mu) (w : World) (H : AH), L.length = m → Left ops q L listed → RelG W0 μ w H (joinG S.G G) → (∀ b x, S.G b = some x → ∃ f, b = n0 + f ∧ f ∉ L ∧ q.flt.contains f = true) →
      LookRel μ S.g a → Kept (ops.toList.filterMap (·.dst)) a0 a → Lx n0 μ0 H.nx μ → (∀ f ∈ L, q.flt.contains f = true → n0 + f < H.nx ∧ μ (n0 + f) = none) → (∀ j ∈ L, S.R j = none) →
      (∀ o ∈ ops.toList, ∀ d, o.dst = some d → d < a.tmps.size) → dr P K ops q.plan n0 L k S H = some (out, Hf) → wpAny P .any ops Q m listed a w := by
  intro m
  induction m with
  | zero =>
    intro L listed S a μ w H hL hleft hr hSG hg hk hlx hfl hR hsz he
    have : L = [] := List.length_eq_zero_iff.1 hL
    subst this
    refine ⟨?_, ?_⟩
    · cases hrd : Region.ready .any ops listed with
      | nil => rfl
      | cons x xs =>
        have : x ∈ Region.ready .any ops listed := by rw [hrd]; simp
        exact absurd ((ready_iff hq hleft x).1 this).1 (by simp)
    · exact hn μ S a w H hlx hr (fun b x h => let ⟨f, e, _, c⟩ := hSG b x h; ⟨f, e, c⟩) hg hk he
  | succ m ih =>
    intro L listed S a μ w H hL hleft hr hSG hg hk hlx hfl hR hsz he
    have hidx := hq.idx.sublist hleft.sub
    have hnd : L.Nodup := hidx.imp fun h e => by subst e; omega
    refine ⟨fun hempty => ?_, fun i hi => ?_⟩
    · exfalso
      cases L with
      | nil => simp at hL
      | cons h t =>
        have hlt := hq.lt h (hleft.sub.subset (by simp))
        have : h ∈ Region.ready .any ops listed := by
          refine (ready_iff hq hleft h).2 ⟨by simp, ops[h], by simp [hlt], fun e he' hb hmem => ?_⟩
          have h1 := (hq.edges h ops[h] (by simp [hlt]) e he' hb).1
          rcases List.mem_cons.1 hmem with e1 | e1
          · rw [e1] at h1; omega
          · have := List.rel_of_pairwise_cons hidx e1
            omega
        rw [hempty] at this
        simp at this
    · obtain ⟨hiL, o, ho, hedges⟩ := (ready_iff hq hleft i).1 hi
      obtain ⟨L1, L2, rfl⟩ := List.append_of_mem hiL
      have hpair : ∀ p ∈ L1, pairOk P ops q.plan p i = true ∧ p ≠ i := by
        intro p hp
        refine ⟨?_, ?_⟩
        · rcases idx_split (hq.pairs.sublist hleft.sub) p hp with h | h
          · exact absurd (by simp [hp]) (hleft.free hq _ i o (Nat.lt_succ_self _) ho hedges p h)
          · exact h
        · intro e
          rw [List.nodup_append] at hnd
          exact hnd.2.2 p hp i (by simp) e
      have he' := dr_front L1 hpair hnd (fun p hp => hR p (by simp [hp])) he
      have hiL' : i ∉ L1 ++ L2 := by
        intro h
        rw [List.nodup_append] at hnd
        rcases List.mem_append.1 h with h | h
        · exact hnd.2.2 i h i (by simp) rfl
        · have := hnd.2.1; rw [List.nodup_cons] at this; exact this.1 h
      have hsub : ∀ j, j ∈ L1 ++ L2 → j ∈ L1 ++ i :: L2 := fun j hj => by rcases List.mem_append.1 hj with h | h <;> simp [h]
      have hlt := hq.lt i (hleft.sub.subset (by simp))
      have hleft' : Left ops q (L1 ++ L2) (listed.setIfInBounds i true) := by
        refine ⟨((List.sublist_cons_self i L2).append_left L1).trans hleft.sub, by simp [hleft.size], fun j hj => ?_, fun j o2 ho2 hj e he2 hb => ?_⟩
        · rw [Array.getD_eq_getD_getElem?, Array.getElem?_setIfInBounds]
          by_cases e : i = j
          · subst e
            have : i < listed.size := by rw [hleft.size]; exact hlt
            simp [this]
            exact ⟨fun h => hiL' (List.mem_append.2 (.inl h)), fun h => hiL' (List.mem_append.2 (.inr h))⟩
          · rw [if_neg e, ← Array.getD_eq_getD_getElem?, hleft.mem j hj]
            refine ⟨fun h => ?_, hsub j⟩
            rcases List.mem_append.1 h with h | h
            · simp [h]
            · rcases List.mem_cons.1 h with h | h
              · exact absurd h.symm e
              · simp [h]
        · intro hmem
          by_cases e1 : j = i
          · subst e1
            rw [ho] at ho2; cases ho2
            exact hedges e he2 hb (hsub _ hmem)
          · refine hleft.down j o2 ho2 (fun h => hj ?_) e he2 hb (hsub _ hmem)
            rcases List.mem_append.1 h with h | h
            · simp [h]
            · rcases List.mem_cons.1 h with h | h
              · exact absurd h e1
              · simp [h]
      simp only [dr, bnd] at he'
      cases hop : opM P K ops q.plan n0 i S H with
      | none => simp [hop] at he'
      | some r =>
        obtain ⟨v, H1⟩ := r
        simp only [hop] at he'
        have cont : ∀ (μ1 : Mu) (v' : Value) (w1 : World), Lx n0 μ0 H1.nx μ1 → Le μ μ1 → (∀ f ∈ L1 ++ L2, q.flt.contains f = true → n0 + f < H1.nx ∧ μ1 (n0 + f) = none) →
            RelG W0 μ1 w1 H1 (joinG (updG P q.plan n0 i o S) G) → VR μ1 v v' → wpAny P .any ops Q m (listed.setIfInBounds i true) (a.put o.dst v') w1 := by
          intro μ1 v' w1 hlx1 hle1 hfl1 hr1 hv
          have hk1 := put_kept (a := a) (dst := o.dst) (v := v')
          rw [upd_eq ho] at he'
          refine ih (L1 ++ L2) _ _ (a.put o.dst v') μ1 w1 H1 (by simp at hL ⊢; omega) hleft' hr1 ?_ ((LookRel.mono hg hle1).put (hsz o (by simpa using Array.mem_of_getElem? ho)) hv) ?_ hlx1 hfl1 ?_ ?_ he'
          · intro b x hb
            simp only at hb
            have hold : S.G b = some x → ∃ f, b = n0 + f ∧ f ∉ L1 ++ L2 ∧ q.flt.contains f = true := fun h => let ⟨f, e1, e2, e3⟩ := hSG b x h; ⟨f, e1, fun h => e2 (hsub f h), e3⟩
            unfold updG at hb
            cases hc : clOf P q.plan i o with
            | pure => rw [hc] at hb; exact hold hb
            | load => rw [hc] at hb; exact hold hb
            | flt =>
              rw [hc] at hb
              simp only at hb
              by_cases e : b = n0 + i
              · refine ⟨i, e, hiL', ?_⟩
                unfold clOf at hc
                split at hc
                · assumption
                · split at hc <;> cases hc
              · rw [if_neg e] at hb; exact hold hb
            | heavy =>
              rw [hc] at hb
              simp only at hb
              by_cases e : (q.plan.needs i).any (fun f => b == n0 + f) = true
              · rw [if_pos e] at hb; cases hb
              · rw [if_neg e] at hb; exact hold hb
          · refine (hk.trans hk1).mono fun t ht => ?_
            rcases List.mem_append.1 ht with h | h
            · exact h
            · cases hod : o.dst with
              | none => simp [hod] at h
              | some d =>
                simp [hod] at h
                subst h
                exact List.mem_filterMap.2 ⟨o, by simpa using Array.mem_of_getElem? ho, hod⟩
          · intro j hj
            have hne : j ≠ i := fun e => hiL' (e ▸ hj)
            have hu : updR P K ops q.plan i o S v j = S.R j := by
              unfold updR
              cases clOf P q.plan i o <;> first | rfl | exact if_neg hne
            exact hu.trans (hR j (hsub j hj))
          · intro o2 ho2 d hd
            rw [hk1.size]
            exact hsz o2 ho2 d hd
        have cont' : ∀ (μ1 : Mu) (v' : Value) (w1 : World), Lx H.nx μ H1.nx μ1 → RelG W0 μ1 w1 H1 (joinG (updG P q.plan n0 i o S) G) → VR μ1 v v' →
            wpAny P .any ops Q m (listed.setIfInBounds i true) (a.put o.dst v') w1 := by
          intro μ1 v' w1 hlx1 hr1 hv
          refine cont μ1 v' w1 (hlx.trans hlx1) hlx1.le (fun f hf hc => ?_) hr1 hv
          obtain ⟨h1, h2⟩ := hfl f (hsub f hf) hc
          exact ⟨Nat.lt_of_lt_of_le h1 hlx1.nx, by rw [hlx1.old _ h1]; exact h2⟩
        -- a guarded operation
        have guardedCase : ∀ (H0 : AH) (H1' : AH), RelG W0 μ w H0 (joinG (updG P q.plan n0 i o S) G) → H0.nx = H.nx → H1' = H1 → act P K ops S.g o H0 = some (v, H1') → wpOp P ops Q i (wpAny P .any ops Q m (listed.setIfInBounds i true)) a w := by
          intro H0 H1' hr0 hnx0 e1 hact
          subst e1
          unfold wpOp
          simp only [ho]
          unfold act at hact
          cases hgd : guardV ops S.g o with
          | none => simp [hgd, guarded, fail] at hact
          | some b =>
            have hw := guard_wanted hg hgd
            cases b with
            | true =>
              rw [if_pos hw]
              left
              simp only [hgd, guarded] at hact
              exact sound_oper hK hr0 hg hact fun μ1 v' w1 l r hv => cont' μ1 v' w1 (by rw [← hnx0]; exact l) r hv
            | false =>
              rw [if_neg (by rw [hw]; simp)]
              simp only [hgd, guarded, ret, Option.some.injEq, Prod.mk.injEq] at hact
              obtain ⟨rfl, rfl⟩ := hact
              exact cont' μ undef w (by rw [← hnx0]; exact Lx.refl _ _) hr0 (.tup .nil)
        cases hcl : clOf P q.plan i o with
        | pure =>
          have hG : updG P q.plan n0 i o S = S.G := by unfold updG; rw [hcl]
          rw [(opM_pure ho hcl).1] at hop
          exact guardedCase H H1 (by rw [hG]; exact hr) rfl rfl hop
        | load =>
          have hG : updG P q.plan n0 i o S = S.G := by unfold updG; rw [hcl]
          rw [opM_load ho hcl] at hop
          refine guardedCase H H1 (by rw [hG]; exact hr) rfl rfl ?_
          unfold act
          cases hgd : guardV ops S.g o with
          | none => simp [hgd, guarded, fail] at hop
          | some b =>
            cases b with
            | true =>
              simp only [hgd, guarded] at hop ⊢
              obtain ⟨h1, rfl⟩ := ro_of hop
              exact h1
            | false => simpa [hgd, guarded] using hop
        | heavy =>
          rw [opM_heavy ho hcl] at hop
          simp only [bnd, mrg] at hop
          split at hop
          · rename_i v1 H2 h2
            split at hop
            · rename_i u H3 h3
              obtain ⟨e3, _⟩ := chks_still h3
              subst e3
              simp only [ret, Option.some.injEq, Prod.mk.injEq] at hop
              obtain ⟨rfl, rfl⟩ := hop
              refine guardedCase { nx := H.nx, bk := fun b => if (q.plan.needs i).any (fun i => b == n0 + i) then (match S.G b with | some x => some x | none => H.bk b) else H.bk b } H3 ?_ rfl rfl h2
              have hG : updG P q.plan n0 i o S = fun b => if (q.plan.needs i).any (fun f => b == n0 + f) then none else S.G b := by unfold updG; rw [hcl]
              rw [hG]
              refine relG_congr hr (fun b => ?_) rfl (fun b hb => ?_)
              · simp only [AH.plus, joinG]
                by_cases hb : (q.plan.needs i).any (fun f => b == n0 + f) = true
                · simp only [hb, if_true]
                  cases hs : S.G b with
                  | none => simp
                  | some x =>
                    have : H.bk b = none := by
                      cases hH : H.bk b with
                      | none => rfl
                      | some y => have := hr.dis b (by simp [hH]); simp [joinG, hs] at this
                    simp [this]
                · simp [hb]
              · simp only [joinG] at hb ⊢
                by_cases hb2 : (q.plan.needs i).any (fun f => b == n0 + f) = true
                · simp only [hb2, if_true] at hb ⊢
                  cases hs : S.G b with
                  | none =>
                    simp only [hs] at hb
                    have := hr.dis b hb
                    simpa [joinG, hs] using this
                  | some x =>
                    obtain ⟨f, e, _⟩ := hSG b x hs
                    exact hG0 b (by omega)
                · simp only [hb2] at hb ⊢
                  exact hr.dis b hb
            · cases hop
          · cases hop
        | flt =>
          rw [opM_flt ho hcl] at hop
          have hcon : q.flt.contains i = true := by
            unfold clOf at hcl
            split at hcl
            · assumption
            · split at hcl <;> cases hcl
          obtain ⟨hb0, hfr⟩ := hfl i (by simp) hcon
          cases hgd : o.guard with
          | some p => simp [hgd, fail] at hop
          | none =>
            simp only [hgd, need] at hop
            cases hf : evFlt P S.g o with
            | none => simp [hf, fail] at hop
            | some r =>
              obtain ⟨cs, es, mk⟩ := r
              simp only [hf, ret, Option.some.injEq, Prod.mk.injEq] at hop
              obtain ⟨rfl, rfl⟩ := hop
              obtain ⟨C, el, cv, hrun, hv, hall, hmk⟩ := flt_run (P := P) (w := w) hg hf
              have hlen := hv.length
              simp only [Array.length_toList] at hlen
              have hnone : H.bk (n0 + i) = none := by
                cases hH : H.bk (n0 + i) with
                | none => rfl
                | some x =>
                  exfalso
                  have hp : (H.plus (joinG S.G G)).bk (n0 + i) = some x := plus_some hH
                  cases x with
                  | cells c1 c2 c3 c4 => obtain ⟨l, hl, _⟩ := hr.rel.row _ _ _ _ _ hp; simp [hfr] at hl
                  | iter s p => obtain ⟨l, hl, _⟩ := hr.rel.iter _ _ _ hp; simp [hfr] at hl
              obtain ⟨g1, g2⟩ := hr.rel.newAt hfr hb0 (new_push w (.cells C el)) (g := false) (es := es) (cs := cs) (μ' := muSet μ (n0 + i) { blk := w.heap.size, sh := 0, ext := cs.length, top := C.size, es := es }) rfl (by omega)
                (fun j x hx => by
                  obtain ⟨u, k1, k2⟩ := hv.get hx
                  refine ⟨by rw [List.all_eq_true] at hall; exact hall _ (List.mem_of_getElem? hx), u, by simpa using k1, k2.mono (muSet_le hfr)⟩)
              unfold wpOp
              simp only [ho]
              rw [if_pos (by simp [Region.wanted, hgd])]
              left
              unfold Oper.wp
              rw [hrun, Oper.upon_value]
              have hG : updG P q.plan n0 i o S = fun b => if b = n0 + i then some (.cells cs es false true) else S.G b := by unfold updG; rw [hcl]; simp only [hf, Option.map_some]
              refine cont (muSet μ (n0 + i) { blk := w.heap.size, sh := 0, ext := cs.length, top := C.size, es := es }) cv _ ⟨hlx.le.trans g2, fun b hb => ?_, hlx.nx⟩ g2 (fun f hf hc => ?_) ?_ (hmk _ _ { blk := w.heap.size, sh := 0, ext := cs.length, top := C.size, es := es } (by simp [muSet]) rfl rfl)
              · simp only [muSet]; rw [if_neg (by omega)]; exact hlx.old b hb
              · obtain ⟨h1, h2⟩ := hfl f (hsub f hf) hc
                refine ⟨h1, ?_⟩
                simp only [muSet]
                rw [if_neg (fun e => hiL' (by have : f = i := by omega
                                              exact this ▸ hf))]
                exact h2
              · rw [hG]
                refine ⟨g1.drop (fun b x hx => ?_) (Nat.le_refl _), fun b hb => ?_⟩
                · simp only [AH.plus, joinG] at hx ⊢
                  by_cases e : b = n0 + i
                  · subst e; simpa [hnone] using hx
                  · simpa [e] using hx
                · simp only [joinG]
                  by_cases e : b = n0 + i
                  · subst e; simp [hnone] at hb
                  · rw [if_neg e]
                    exact hr.dis b hb

theorem envOf_get {g : Look} : ∀ (l : List Oper) (t : Nat) (x : AV), (envOf g l).get t = some x → g t = some x
  | [], t, x, h => by simp [envOf, Env.get] at h
  | o :: l, t, x, h => by
    simp only [envOf] at h
    split at h
    · rename_i d hd
      split at h
      · rename_i v hv
        simp only [Env.get] at h
        by_cases e : d = t
        · rw [if_pos e] at h; cases h; rw [← e]; exact hv
        · rw [if_neg e] at h; exact envOf_get l t x h
      · exact envOf_get l t x h
    · exact envOf_get l t x h

theorem sound_draw (hm : P.follows .mixedOrders = true) (hK : SoundK P W0 K) : SoundD P W0 evDraw K := by
  intro q G id ops k E a μ w H out H' Q hr hE hsz he hn
  unfold evDraw at he
  split at he
  · rename_i hok
    have hq := planOk_spec hok
    refine wp_region_any hm ?_
    have hG0 : ∀ b, H.nx ≤ b → G b = none := fun b hb => hr.gnone hb
    have hj : joinG (fun _ => none) G = G := by funext b; simp [joinG]
    have hr0 : RelG W0 μ { w with drawn := w.drawn + 1 } (if q.flt.isEmpty = true then H else { H with nx := H.nx + ops.size }) (joinG (fun _ => none) G) := by
      rw [hj]
      have h1 : RelG W0 μ { w with drawn := w.drawn + 1 } H G := hr.same ⟨rfl, rfl, rfl, rfl⟩
      split
      · exact h1
      · exact ⟨h1.rel.drop (fun b x h => h) (by simp [AH.plus]), h1.dis⟩
    have hnx : H.nx ≤ (if q.flt.isEmpty = true then H else { H with nx := H.nx + ops.size }).nx := by split <;> simp
    suffices hsuf : wpAny P .any ops Q q.order.length (Array.replicate ops.size false) a { w with drawn := w.drawn + 1 } by
      rw [hq.len] at hsuf; exact hsuf
    refine sound_dr hK hq (n0 := H.nx) (a0 := a) (μ0 := μ) hG0 ?_ q.order.length q.order _ { g := E.get, G := fun _ => none, R := fun _ => none } a μ _ _ rfl ?_ hr0 (fun b x h => by cases h) hE (Kept.refl _ _) ⟨Le.refl _, fun _ _ => rfl, hnx⟩ ?_ (fun _ _ => rfl) hsz he
    · intro μ' S' a' w' H1 l r hS hg hk he'
      simp only [bnd, mrg] at he'
      refine hn μ' (envOf S'.g ops.toList ++ dropE (ops.toList.filterMap (·.dst)) E) a' w' { nx := H1.nx, bk := fun b => if q.flt.any (fun i => b == H.nx + i) then (match S'.G b with | some x => some x | none => H1.bk b) else H1.bk b } l ?_ ?_ hk he'
      · refine relG_congr r (fun b => ?_) rfl (fun b hb => ?_)
        · simp only [AH.plus, joinG]
          by_cases hb : q.flt.any (fun f => b == H.nx + f) = true
          · simp only [hb, if_true]
            cases hs : S'.G b with
            | none => simp
            | some x =>
              have : H1.bk b = none := by
                cases hH : H1.bk b with
                | none => rfl
                | some y => have := r.dis b (by simp [hH]); simp [joinG, hs] at this
              simp [this]
          · have hs : S'.G b = none := by
              cases hs : S'.G b with
              | none => rfl
              | some x =>
                exfalso
                obtain ⟨f, e, hf⟩ := hS b x hs
                apply hb
                rw [List.any_eq_true]
                exact ⟨f, by simpa using hf, by simp [e]⟩
            simp [hb, hs]
        · by_cases hb2 : q.flt.any (fun f => b == H.nx + f) = true
          · simp only [hb2, if_true] at hb
            cases hs : S'.G b with
            | none =>
              simp only [hs] at hb
              have := r.dis b hb
              simpa [joinG, hs] using this
            | some x =>
              obtain ⟨f, e, _⟩ := hS b x hs
              exact hG0 b (by omega)
          · simp only [hb2] at hb
            have := r.dis b hb
            cases hs : S'.G b with
            | none => simpa [joinG, hs] using this
            | some x => simp [joinG, hs] at this
      · intro t x e
        rcases get_append e with e | ⟨_, e⟩
        · exact hg t x (envOf_get _ _ _ e)
        · obtain ⟨h1, h2⟩ := get_dropE _ _ _ _ e
          rw [hk.slot t h1]
          exact (hE t x h2).mono l.le
    · refine ⟨List.Sublist.refl _, by simp, fun i hi => ?_, fun i o ho hi => ?_⟩
      · simp [hi, hq.all i hi]
      · exact absurd (hq.all i (lt_of_get? ho)) hi
    · intro f hf hc
      have hne : q.flt.isEmpty = false := by
        cases hl : q.flt with
        | nil => rw [hl] at hc; simp at hc
        | cons x l => rfl
      have hlt := hq.lt f hf
      refine ⟨by rw [hne]; simp; omega, hr.rel.fresh _ (by simp [AH.plus])⟩
  · cases he

/-- The abstract machine's runs are the model's. -/
theorem sound {A : FuncId → Ann} (hm : P.follows .mixedOrders = true) (n : Nat) : SoundK P W0 (run evDraw A P n) := sound_run (fun _ hK => sound_draw hm hK) n
end
end Go.Ab
