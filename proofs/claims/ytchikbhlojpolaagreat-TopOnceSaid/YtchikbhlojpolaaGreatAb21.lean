/- The abstract machine: regions that draw and in which nothing floats, gone through plainly in the plan's order. -/
import Derived.Test.YtchikbhlojpolaaGreatAb20
namespace Go.Ab
open Go Go.RowKit

open Classical in
noncomputable def ckm {α : Type} (m : M AV) (v : AV) (r : M α) : M α := fun H => if m H = some (v, H) then r H else none
noncomputable def ckg {α : Type} (g : Option Bool) (m : M AV) (v : AV) (r : M α) : M α :=
  match g with
  | some true => ckm m v r
  | _ => r
/-- No callees. -/
def noK : Calls? := fun _ _ => fail
/-- The loads l, read again. -/
noncomputable def rechk {α : Type} (P : Program) (ops : Array Oper) (E : Env) : List Nat → M α → M α
  | [], r => r
  | j :: l, r => match ops[j]? with
    | some o => match o.dst with
      | some d => match E.get d with
        | some v => ckg (guardV ops E.get o) (evOp P noK E.get o) v (rechk P ops E l r)
        | none => fail
      | none => fail
    | none => fail
noncomputable def drS {α : Type} (P : Program) (K : Calls?) (ops : Array Oper) (keeps : List (List Nat)) : List Nat → (Env → M α) → Env → M α
  | [], k, E => k E
  | i :: l, k, E => match ops[i]? with
    | some o => bnd (guarded (guardV ops E.get o) (evOp P K E.get o)) fun v => rechk P ops (E.put o.dst v) (keeps.getD i []) (drS P K ops keeps l k (E.put o.dst v))
    | none => fail
def apartOk (ops : Array Oper) (i j : Nat) : Bool :=
  match ops[i]?, ops[j]? with
  | some oi, some oj => match oi.dst with
    | some d => !(looks ops oj).contains d && (i == j || oj.dst != some d)
    | none => true
  | _, _ => false
def ldOk (P : Program) (o : Oper) : Bool :=
  match o.op with
  | .convert _ d _ => match P.underlying d with
    | some (.slice _) => false
    | _ => true
  | _ => true
def kOk (P : Program) (ops : Array Oper) (keeps : List (List Nat)) (ka : List Nat) : List Nat → List Nat → Bool
  | [], _ => true
  | i :: l, dn => !dn.contains i && (i :: dn).all (fun j => !ka.contains j || apartOk ops i j) && (keeps.getD i []).all (fun j => dn.contains j && ka.contains j) &&
      (match ops[i]? with | some o => ldOk P o && (!ka.contains i || (match dcls P o with | .load => true | _ => false)) | none => false) && kOk P ops keeps ka l (i :: dn)
/-- Regions in which nothing floats, plainly; others as before. -/
noncomputable def evD (q : PlanL) (P : Program) (K : Calls?) (ops : Array Oper) (k : Env → M Out) (E : Env) : M Out :=
  if planOk P ops q && q.flt.isEmpty && kOk P ops q.keeps q.keeps.flatten q.order [] then drS P K ops q.keeps q.order k E else evDraw q P K ops k E

section
variable {P : Program} {W0 : World} {G : Nat → Option Blk} {K : Calls?} {ops : Array Oper}

theorem still_ret {v : AV} : Still (ret v : M AV) := by intro H v' H' h; simp only [ret] at h; cases h; rfl
theorem still_fail : Still (fail : M AV) := by intro H v' H' h; simp [fail] at h
theorem still_need {α : Type} {x : Option α} {f : α → M AV} (h : ∀ a, Still (f a)) : Still (need x f) := by
  cases x with
  | none => exact still_fail
  | some a => exact h a
theorem still_ite {c : Prop} [Decidable c] {x y : M AV} (h1 : Still x) (h2 : Still y) : Still (if c then x else y) := by split <;> assumption
theorem still_ldn {r : Ref} {n : Nat} {f : List AV → M AV} (h : ∀ a, Still (f a)) : Still (bnd (ldn r n) f) := by
  intro H v H' e
  simp only [bnd, ldn] at e
  cases hr : H.rd r n with
  | none => simp [hr] at e
  | some cs => simp only [hr, Option.map] at e; exact h cs H v H' e
theorem still_ld {a : AV} : Still (ld a) := by
  intro H v H' e
  cases a with
  | ptr r =>
    cases r with
    | none => simp [ld, fail] at e
    | some r =>
      simp only [ld, ld1] at e
      cases hr : H.rd1 r with
      | none => simp [hr] at e
      | some x => simp [hr] at e; exact e.2.symm
  | _ => simp [ld, fail] at e
theorem still_lda {n : Nat} {a : AV} : Still (lda n a) := by
  cases a with
  | ptr r =>
    cases r with
    | none => exact still_fail
    | some r => exact still_ldn fun _ => still_ret
  | _ => exact still_fail
theorem still_slS {e : Nat} {x : AV} {lo hi mx : Option AV} : Still (slS e x lo hi mx) := by
  cases x with
  | sl a len cap =>
    cases cap with
    | some c => exact still_need fun _ => still_need fun _ => still_need fun _ => still_ret
    | none =>
      cases a with
      | none => exact still_fail
      | some r =>
        intro H v H' h
        simp only [slS] at h
        split at h
        · split at h
          · cases mx with
            | none => exact (still_need (f := fun h => need (boundA 0 h lo) fun l => ret _) fun _ => still_need fun _ => still_ret) H v H' h
            | some m => exact (still_need (f := fun m => need (boundA len m hi) fun h => need (boundA 0 h lo) fun l => ret _) fun _ => still_need fun _ => still_need fun _ => still_ret) H v H' h
          · cases h
        · cases h
  | _ => exact still_fail
theorem still_slR {n e : Nat} {x : AV} {lo hi mx : Option AV} : Still (slR n e x lo hi mx) := by
  cases x with
  | ptr r =>
    cases r with
    | none => exact still_fail
    | some r => exact still_need fun _ => still_need fun _ => still_need fun _ => still_ret
  | _ => exact still_fail
theorem still_slStr {x : AV} {lo hi : Option AV} : Still (slStr x lo hi) := by
  cases x with
  | str s => exact still_need fun _ => still_need fun _ => still_ret
  | _ => exact still_fail
theorem still_b2s {x : AV} : Still (b2s x) := by
  cases x with
  | sl a len cap =>
    cases a with
    | none => exact still_ret
    | some r => exact still_ldn fun _ => still_need fun _ => still_ret
  | _ => exact still_fail
theorem still_r2s {x : AV} : Still (r2s x) := by
  cases x with
  | sl a len cap =>
    cases a with
    | none => exact still_ret
    | some r => exact still_ldn fun _ => still_need fun _ => still_ret
  | _ => exact still_fail
theorem still_load {g : Look} {o : Oper} (h : dcls P o = .load) (hl : ldOk P o = true) : Still (evOp P K g o) := by
  obtain ⟨dst, op, ty, pos, aft, grd⟩ := o
  cases op <;> try (simp [dcls] at h; done)
  case convert s d x =>
    refine still_need fun v => ?_
    simp only [ldOk] at hl
    unfold evConv
    split <;> first
      | exact still_fail
      | exact still_ret
      | (unfold cvI; split <;> first | exact still_ret | exact still_fail)
      | (unfold i2s; split <;> first | exact still_ret | exact still_fail)
      | (split <;> first | exact still_b2s | exact still_r2s | exact still_fail)
      | (rename_i h1 h2; simp [h2] at hl)
  case load t a =>
    refine still_need fun a => still_need fun g => ?_
    exact still_ite (still_need fun _ => still_lda) still_ld
  case slice t x lo hi mx =>
    refine still_need fun x => still_need fun lo => still_need fun hi => still_need fun mx => still_ite still_fail ?_
    split
    · exact still_need fun _ => still_slR
    · split
      · exact still_slStr
      · exact still_fail
    · exact still_need fun _ => still_slS
    · exact still_fail
  case call c =>
    exfalso
    simp only [dcls] at h
    split at h <;> cases h

theorem put_get (E : Env) (dst : Option Nat) (v : AV) : (E.put dst v).get = Look.put E.get dst v := by
  cases dst with
  | none => rfl
  | some d => funext t; simp only [Env.put, Env.get, Look.put]; by_cases h : d = t <;> simp [h, eq_comm]
/-- What is kept of a load that is behind. -/
def RI (P : Program) (K : Calls?) (ops : Array Oper) (R : Nat → Option (M AV × AV)) (E : Env) (j : Nat) : Prop :=
  ∀ o d, ops[j]? = some o → o.dst = some d → ∃ v, E.get d = some v ∧ R j = (if guardV ops E.get o = some true then some (ro (evOp P K E.get o), v) else none)
theorem apart_look {i j : Nat} (h : apartOk ops i j = true) {oi oj : Oper} (hi : ops[i]? = some oi) (hj : ops[j]? = some oj) (E : Env) (v : AV) :
    (∀ t ∈ looks ops oj, (E.put oi.dst v).get t = E.get t) ∧ (i ≠ j → ∀ d, oj.dst = some d → (E.put oi.dst v).get d = E.get d) := by
  simp only [apartOk, hi, hj] at h
  cases hd : oi.dst with
  | none => exact ⟨fun _ _ => rfl, fun _ _ _ => rfl⟩
  | some d =>
    simp only [hd, Bool.and_eq_true, Bool.not_eq_true', Bool.or_eq_true, beq_iff_eq, bne_iff_ne] at h
    refine ⟨fun t ht => ?_, fun hne d' hd' => ?_⟩
    · simp only [Env.put, Env.get]
      have : d ≠ t := by
        intro e; subst e
        have := h.1
        rw [List.contains_eq_mem] at this
        simp [ht] at this
      simp [this]
    · simp only [Env.put, Env.get]
      have : d ≠ d' := by
        intro e; subst e
        rcases h.2 with h2 | h2
        · exact hne h2
        · exact h2 hd'
      simp [this]
theorem RI.put {R : Nat → Option (M AV × AV)} {E : Env} {i j : Nat} {oi : Oper} {v : AV} (h : RI P K ops R E j) (ha : apartOk ops i j = true) (hi : ops[i]? = some oi) (hne : i ≠ j) : RI P K ops R (E.put oi.dst v) j := by
  intro o d ho hd
  obtain ⟨u, h1, h2⟩ := h o d ho hd
  obtain ⟨a1, a2⟩ := apart_look ha hi ho E v
  have e1 : guardV ops (E.put oi.dst v).get o = guardV ops E.get o := guard_congr a1
  have e2 : evOp P K (E.put oi.dst v).get o = evOp P K E.get o := evOp_congr fun t ht => a1 t (mem_looks ht)
  exact ⟨u, by rw [a2 hne d hd]; exact h1, by rw [e1, e2]; exact h2⟩
theorem noK_imp {g : Look} {o : Oper} {H : AH} {r : AV × AH} (h : evOp P noK g o H = some r) : evOp P K g o H = some r := by
  cases hc : isCall o with
  | false => rw [evOp_noK (K := K) (K' := noK) hc]; exact h
  | true =>
    exfalso
    obtain ⟨dst, op, ty, pos, aft, grd⟩ := o
    cases op <;> try (simp [isCall] at hc; done)
    rename_i c
    obtain ⟨cal, args, ats⟩ := c
    cases cal with
    | builtin b => simp [isCall] at hc
    | invoke r m => simp [isCall] at hc
    | value f =>
      simp only [evOp] at h
      cases hf : opv g f with
      | none => simp [hf, need, fail] at h
      | some fv =>
        cases ha : opvs g args.toList with
        | none => simp [hf, ha, need, fail] at h
        | some vs =>
          simp only [hf, ha, need] at h
          cases fv <;> simp [noK, fail] at h
theorem rechk_step {α : Type} {E : Env} {m : M α} {H : AH} {r : α × AH} {j : Nat} {l : List Nat} (h : rechk P ops E (j :: l) m H = some r) :
    rechk P ops E l m H = some r ∧ ∃ o d v, ops[j]? = some o ∧ o.dst = some d ∧ E.get d = some v ∧ (guardV ops E.get o = some true → evOp P K E.get o H = some (v, H)) := by
  unfold rechk at h
  cases ho : ops[j]? with
  | none => simp [ho, fail] at h
  | some o =>
    cases hd : o.dst with
    | none => simp [ho, hd, fail] at h
    | some d =>
      cases hv : E.get d with
      | none => simp [ho, hd, hv, fail] at h
      | some v =>
        simp only [ho, hd, hv] at h
        by_cases hg : guardV ops E.get o = some true
        · simp only [hg, ckg, ckm] at h
          by_cases hm : evOp P noK E.get o H = some (v, H)
          · rw [if_pos hm] at h
            exact ⟨h, o, d, v, rfl, hd, hv, fun _ => noK_imp hm⟩
          · rw [if_neg hm] at h; cases h
        · have : rechk P ops E l m H = some r := by
            unfold ckg at h
            cases hgv : guardV ops E.get o with
            | none => simpa [hgv] using h
            | some b =>
              cases b with
              | false => simpa [hgv] using h
              | true => exact absurd hgv hg
          exact ⟨this, o, d, v, rfl, hd, hv, fun h => absurd h hg⟩
theorem rechk_rest {α : Type} {E : Env} {m : M α} {H : AH} {r : α × AH} : ∀ {l : List Nat}, rechk P ops E l m H = some r → m H = some r
  | [], h => h
  | _ :: _, h => rechk_rest (rechk_step (K := noK) h).1
theorem rechk_chks {α : Type} {R : Nat → Option (M AV × AV)} {E : Env} {m : M α} {H : AH} {r : α × AH} : ∀ {l : List Nat}, (∀ j ∈ l, RI P K ops R E j) → rechk P ops E l m H = some r → chks R l H = some ((), H)
  | [], _, _ => rfl
  | j :: l, hR, h => by
    obtain ⟨h', o, d, v, ho, hd, hv, hm⟩ := rechk_step (K := K) h
    obtain ⟨u, h1, h2⟩ := hR j (by simp) o d ho hd
    rw [hv] at h1; cases h1
    have tail := rechk_chks (l := l) (fun j hj => hR j (by simp [hj])) h'
    simp only [chks, bnd]
    by_cases hg : guardV ops E.get o = some true
    · rw [h2, if_pos hg]
      have : chk (ro (evOp P K E.get o)) v H = some ((), H) := by
        unfold chk ro; simp [hm hg]
      simp only [this]
      exact tail
    · rw [h2, if_neg hg]
      simp only [ret]
      exact tail
theorem mrg_none {n0 : Nat} {ids : List Nat} {H : AH} : mrg n0 ids (fun _ => none) H = some ((), H) := by
  simp [mrg]

open Classical in
theorem dr_of_drS {α : Type} {q : PlanL} (hf : q.flt = []) {n0 : Nat} {k : Env → M α} {r : α × AH} : ∀ (L dn : List Nat) (S : DS) (E : Env) (H : AH),
    kOk P ops q.keeps q.keeps.flatten L dn = true → S.g = E.get → S.G = (fun _ => none) → (∀ j ∈ dn, q.keeps.flatten.contains j = true → RI P K ops S.R E j) →
    drS P K ops q.keeps L k E H = some r → ∃ Ef : Env, dr P K ops q.plan n0 L (fun S => if S.g = Ef.get ∧ S.G = (fun _ => none) then k Ef else fail) S H = some r
  | [], dn, S, E, H, hk, hg, hG, hR, h => ⟨E, by simp only [dr]; rw [if_pos ⟨hg, hG⟩]; exact h⟩
  | i :: L, dn, S, E, H, hk, hg, hG, hR, h => by
    simp only [kOk, Bool.and_eq_true, Bool.not_eq_true'] at hk
    obtain ⟨⟨⟨⟨hdn, hap⟩, hks⟩, hcl⟩, hk⟩ := hk
    simp only [drS] at h
    cases ho : ops[i]? with
    | none => simp [ho, fail] at h
    | some o =>
      simp only [ho] at h hcl
      simp only [Bool.and_eq_true, Bool.or_eq_true, Bool.not_eq_true'] at hcl
      simp only [bnd] at h
      cases hop : guarded (guardV ops E.get o) (evOp P K E.get o) H with
      | none => simp [hop] at h
      | some p =>
        obtain ⟨v, H1⟩ := p
        simp only [hop] at h
        have hni : ∀ j ∈ dn, i ≠ j := by
          intro j hj e; subst e
          rw [List.contains_eq_mem] at hdn
          simp [hj] at hdn
        have hapj : ∀ j ∈ i :: dn, q.keeps.flatten.contains j = true → apartOk ops i j = true := by
          intro j hj hc
          have := List.all_eq_true.1 hap j hj
          rw [hc] at this
          simpa using this
        have hRE : ∀ j ∈ dn, q.keeps.flatten.contains j = true → RI P K ops S.R (E.put o.dst v) j := fun j hj hc => (hR j hj hc).put (hapj j (by simp [hj]) hc) ho (hni j hj)
        have hstep : opM P K ops q.plan n0 i S H = some (v, H1) := by
          unfold opM
          simp only [ho]
          have hfc : q.plan.flt.contains i = false := by simp [PlanL.plan, hf]
          rw [if_neg (by simp [hf, PlanL.plan])]
          rw [hg]
          cases hd : dcls P o with
          | pure => simpa using hop
          | load =>
            simp only
            have hs : Still (evOp P K E.get o) := still_load hd hcl.1
            cases hgv : guardV ops E.get o with
            | none => rw [hgv] at hop; exact hop
            | some b =>
              rw [hgv] at hop
              cases b with
              | false => exact hop
              | true =>
                simp only [guarded] at hop ⊢
                have := hs _ _ _ hop
                subst this
                simp [ro, hop]
          | flt =>
            simp only
            simp only [bnd, hG, mrg_none, hop]
            rw [rechk_chks (K := K) (l := q.plan.keeps i) (R := S.R) (E := E.put o.dst v) (fun j hj => ?_) h]
            · rfl
            · have := List.all_eq_true.1 hks j hj
              simp only [Bool.and_eq_true, List.contains_eq_mem, decide_eq_true_eq] at this
              exact hRE j this.1 (by rw [List.contains_eq_mem]; simpa using this.2)
          | heavy =>
            simp only
            simp only [bnd, hG, mrg_none, hop]
            rw [rechk_chks (K := K) (l := q.plan.keeps i) (R := S.R) (E := E.put o.dst v) (fun j hj => ?_) h]
            · rfl
            · have := List.all_eq_true.1 hks j hj
              simp only [Bool.and_eq_true, List.contains_eq_mem, decide_eq_true_eq] at this
              exact hRE j this.1 (by rw [List.contains_eq_mem]; simpa using this.2)
        have hS : (upd P K ops q.plan n0 i S v).g = (E.put o.dst v).get ∧ (upd P K ops q.plan n0 i S v).G = (fun _ => none) ∧
            (∀ j, j ≠ i → (upd P K ops q.plan n0 i S v).R j = S.R j) ∧ (dcls P o = .load → (upd P K ops q.plan n0 i S v).R i = if guardV ops S.g o = some true then some (ro (evOp P K S.g o), v) else none) := by
          unfold upd
          simp only [ho]
          rw [if_neg (by simp [hf, PlanL.plan])]
          rw [put_get, ← hg]
          cases hd : dcls P o with
          | pure => exact ⟨rfl, hG, fun _ _ => rfl, fun h => by cases h⟩
          | load => exact ⟨rfl, hG, fun j hj => by simp [hj], fun _ => by simp⟩
          | flt => refine ⟨rfl, ?_, fun _ _ => rfl, fun h => by cases h⟩; funext b; simp [hG]
          | heavy => refine ⟨rfl, ?_, fun _ _ => rfl, fun h => by cases h⟩; funext b; simp [hG]
        obtain ⟨Ef, he⟩ := dr_of_drS hf L (i :: dn) (upd P K ops q.plan n0 i S v) (E.put o.dst v) H1 hk hS.1 hS.2.1 (fun j hj hc => by
          by_cases hji : j = i
          · subst hji
            intro o' d ho' hd
            rw [ho] at ho'; cases ho'
            have hl : dcls P o = .load := by
              rcases hcl.2 with h' | h'
              · rw [hc] at h'; cases h'
              · cases hd : dcls P o <;> simp [hd] at h' ⊢
            obtain ⟨a1, _⟩ := apart_look (hapj j (by simp) hc) ho ho E v
            refine ⟨v, by simp [hd, Env.put, Env.get], ?_⟩
            rw [hS.2.2.2 hl, hg, guard_congr (ops := ops) (g := (E.put o.dst v).get) (g' := E.get) a1, evOp_congr (P := P) (K := K) (g := (E.put o.dst v).get) (g' := E.get) fun t ht => a1 t (mem_looks ht)]
          · have hjd : j ∈ dn := by simpa [hji] using hj
            intro o' d ho' hd
            rw [hS.2.2.1 j hji]
            exact hRE j hjd hc o' d ho' hd) (rechk_rest h)
        refine ⟨Ef, ?_⟩
        simp only [dr, bnd, hstep]
        exact he
theorem sound_evD (hm : P.follows .mixedOrders = true) (hK : SoundK P W0 K) : SoundD P W0 evD K := by
  intro q G id ops k E a μ w H out H' Q hr hE hsz he hn
  unfold evD at he
  split at he
  · rename_i hc
    simp only [Bool.and_eq_true] at hc
    obtain ⟨⟨hok, hfl⟩, hkk⟩ := hc
    have hf : q.flt = [] := by simpa using hfl
    obtain ⟨Ef, hdr⟩ := dr_of_drS (n0 := H.nx) hf q.order [] { g := E.get, G := fun _ => none, R := fun _ => none } E H hkk rfl rfl (fun j hj => by simp at hj) he
    have hq := planOk_spec hok
    refine wp_region_any hm ?_
    have hG0 : ∀ b, H.nx ≤ b → G b = none := fun b hb => hr.gnone hb
    have hj : joinG (fun _ => none) G = G := by funext b; simp [joinG]
    have hr0 : RelG W0 μ { w with drawn := w.drawn + 1 } H (joinG (fun _ => none) G) := by
      rw [hj]; exact hr.same ⟨rfl, rfl, rfl, rfl⟩
    suffices hsuf : wpAny P .any ops Q q.order.length (Array.replicate ops.size false) a { w with drawn := w.drawn + 1 } by
      rw [hq.len] at hsuf; exact hsuf
    refine sound_dr hK hq (n0 := H.nx) (a0 := a) (μ0 := μ) hG0 ?_ q.order.length q.order _ { g := E.get, G := fun _ => none, R := fun _ => none } a μ _ H rfl ?_ hr0 (fun b x h => by cases h) hE (Kept.refl _ _) (Lx.refl _ _) ?_ (fun _ _ => rfl) hsz hdr
    · intro μ' S' a' w' H1 l r hS hg hk he'
      by_cases hS' : S'.g = Ef.get ∧ S'.G = (fun _ => none)
      · rw [if_pos hS'] at he'
        refine hn μ' Ef a' w' H1 l ?_ ?_ hk he'
        · rw [hS'.2, hj] at r; exact r
        · rw [hS'.1] at hg; exact hg
      · rw [if_neg hS'] at he'; simp [fail] at he'
    · refine ⟨List.Sublist.refl _, by simp, fun i hi => ?_, fun i o ho hi => ?_⟩
      · simp [hi, hq.all i hi]
      · exact absurd (hq.all i (lt_of_get? ho)) hi
    · intro f _ hc
      rw [hf] at hc; simp at hc
  · exact sound_draw hm hK q G id ops k E a μ w H out H' Q hr hE hsz he hn

variable {Kn : Nat → Calls?} (hKn : ∀ f args, Lim (fun n => Kn n f args) (K f args))
omit hKn in
theorem lim_rechk {α : Type} {E : Env} {x : Nat → M α} {y : M α} (h : Lim x y) : ∀ l : List Nat, Lim (fun n => rechk P ops E l (x n)) (rechk P ops E l y)
  | [] => h
  | j :: l => by
    simp only [rechk]
    cases ops[j]? with
    | none => exact Lim.const _
    | some o =>
      simp only
      cases o.dst with
      | none => exact Lim.const _
      | some d =>
        simp only
        cases E.get d with
        | none => exact Lim.const _
        | some v =>
          have ih := lim_rechk (E := E) h l
          simp only [ckg]
          cases guardV ops E.get o with
          | none => exact ih
          | some b =>
            cases b with
            | false => exact ih
            | true =>
              refine ⟨fun n H r e => ?_, fun H r => ?_⟩
              · simp only [ckm] at e ⊢
                split at e
                · rename_i hc; rw [if_pos hc]; exact ih.up n H r e
                · cases e
              · simp only [ckm]
                split
                · exact ih.to H r
                · simp
include hKn
theorem lim_drS {α : Type} {keeps : List (List Nat)} (kn : Nat → Env → M α) (k : Env → M α) (h : ∀ E, Lim (fun n => kn n E) (k E)) : ∀ (l : List Nat) (E : Env), Lim (fun n => drS P (Kn n) ops keeps l (kn n) E) (drS P K ops keeps l k E)
  | [], E => h E
  | i :: l, E => by
    simp only [drS]
    cases ops[i]? with
    | none => exact Lim.const _
    | some o => exact Lim.bnd (Lim.guarded (lim_op hKn E.get o)) fun v => lim_rechk (lim_drS kn k h l _) _
theorem lim_evD {q : PlanL} (kn : Nat → Env → M Out) (k : Env → M Out) (E : Env) (h : ∀ E, Lim (fun n => kn n E) (k E)) : Lim (fun n => evD q P (Kn n) ops (kn n) E) (evD q P K ops k E) := by
  unfold evD
  exact Lim.ite (lim_drS hKn kn k h _ E) (lim_draw hKn kn k E h)
end
end Go.Ab
