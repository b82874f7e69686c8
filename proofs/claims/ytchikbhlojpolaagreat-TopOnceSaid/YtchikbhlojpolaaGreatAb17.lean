/- The abstract machine: regions that draw their order: two operations that are not ordered may be exchanged. -/
import Derived.Test.YtchikbhlojpolaaGreatAb16
namespace Go.Ab
open Go Go.RowKit

section
variable {P : Program} {K : Calls?} {ops : Array Oper} {pl : Plan} {n0 : Nat}

theorem Indep.guarded {m : M AV} (h : Indep m) (g : Option Bool) : Indep (guarded g m) := by
  cases g with
  | none => exact ⟨none, fun _ => rfl⟩
  | some b => cases b with
    | true => exact h
    | false => exact ⟨some undefA, fun _ => rfl⟩
/-- A part that leaves memory as it is. -/
def Still (m : M AV) : Prop := ∀ H v H', m H = some (v, H') → H' = H
theorem still_ro (m : M AV) : Still (ro m) := by
  intro H v H' h
  unfold ro at h
  split at h
  · split at h
    · simp only [Option.some.injEq, Prod.mk.injEq] at h; exact h.2.symm
    · cases h
  · cases h
theorem ro_of {m : M AV} {H H' : AH} {v : AV} (h : ro m H = some (v, H')) : m H = some (v, H) ∧ H' = H := by
  unfold ro at h
  split at h
  · rename_i u H1 hm
    split at h
    · rename_i e; subst e; simp only [Option.some.injEq, Prod.mk.injEq] at h; obtain ⟨rfl, rfl⟩ := h; exact ⟨hm, rfl⟩
    · cases h
  · cases h
theorem Still.guarded {m : M AV} (h : Still m) (g : Option Bool) : Still (guarded g m) := by
  intro H v H' e
  cases g with
  | none => simp [Ab.guarded, fail] at e
  | some b => cases b with
    | true => exact h H v H' e
    | false => simp [Ab.guarded, ret] at e; exact e.2.symm

inductive Cl where
  | pure | load | flt | heavy
def clOf (P : Program) (pl : Plan) (i : Nat) (o : Oper) : Cl :=
  if pl.flt.contains i then .flt else match dcls P o with | .pure => .pure | .load => .load | _ => .heavy

def act (P : Program) (K : Calls?) (ops : Array Oper) (g : Look) (o : Oper) : M AV := guarded (guardV ops g o) (evOp P K g o)

theorem opM_flt {i : Nat} {S : DS} {o : Oper} (ho : ops[i]? = some o) (h : clOf P pl i o = .flt) :
    opM P K ops pl n0 i S = (match o.guard with | none => need (evFlt P S.g o) fun r => ret (r.2.2 (n0 + i)) | some _ => fail) := by
  unfold clOf at h
  split at h
  · rename_i hc; simp only [opM, ho, hc, if_true]; cases o.guard <;> rfl
  · split at h <;> cases h
theorem opM_pure {i : Nat} {S : DS} {o : Oper} (ho : ops[i]? = some o) (h : clOf P pl i o = .pure) : opM P K ops pl n0 i S = act P K ops S.g o ∧ dcls P o = .pure := by
  unfold clOf at h
  split at h
  · cases h
  · rename_i hc
    split at h <;> first | (cases h; done) | skip
    rename_i hd
    simp only [opM, ho, hd]
    rw [if_neg hc]
    exact ⟨rfl, trivial⟩
theorem opM_load {i : Nat} {S : DS} {o : Oper} (ho : ops[i]? = some o) (h : clOf P pl i o = .load) : opM P K ops pl n0 i S = guarded (guardV ops S.g o) (ro (evOp P K S.g o)) := by
  unfold clOf at h
  split at h
  · cases h
  · rename_i hc
    split at h <;> first | (cases h; done) | skip
    rename_i hd
    simp only [opM, ho, hd]
    rw [if_neg hc]
theorem opM_heavy {i : Nat} {S : DS} {o : Oper} (ho : ops[i]? = some o) (h : clOf P pl i o = .heavy) :
    opM P K ops pl n0 i S = bnd (mrg n0 (pl.needs i) S.G) fun _ => bnd (act P K ops S.g o) fun v => bnd (chks S.R (pl.keeps i)) fun _ => ret v := by
  unfold clOf at h
  split at h
  · cases h
  · rename_i hc
    simp only [opM, ho]
    rw [if_neg hc]
    split at h <;> first | (cases h; done) | skip
    rename_i hd1 hd2
    cases hd : dcls P o <;> simp_all <;> rfl

def updG (P : Program) (pl : Plan) (n0 i : Nat) (o : Oper) (S : DS) : Nat → Option Blk :=
  match clOf P pl i o with
  | .flt => fun b => if b = n0 + i then (evFlt P S.g o).map fun r => .cells r.1 r.2.1 false true else S.G b
  | .heavy => fun b => if (pl.needs i).any (fun f => b == n0 + f) then none else S.G b
  | _ => S.G
noncomputable def updR (P : Program) (K : Calls?) (ops : Array Oper) (pl : Plan) (i : Nat) (o : Oper) (S : DS) (v : AV) : Nat → Option (M AV × AV) :=
  match clOf P pl i o with
  | .load => fun j => if j = i then (if guardV ops S.g o = some true then some (ro (evOp P K S.g o), v) else none) else S.R j
  | _ => S.R
theorem upd_eq {i : Nat} {S : DS} {v : AV} {o : Oper} (ho : ops[i]? = some o) :
    upd P K ops pl n0 i S v = { g := S.g.put o.dst v, G := updG P pl n0 i o S, R := updR P K ops pl i o S v } := by
  simp only [upd, ho, updG, updR, clOf]
  split
  · rfl
  · cases hd : dcls P o <;> rfl

theorem put_get_ne {g : Look} {dst : Option Nat} {v : AV} {t : Nat} (h : ∀ d, dst = some d → d ≠ t) : (g.put dst v) t = g t := by
  cases dst with
  | none => rfl
  | some d => simp only [Look.put]; rw [if_neg (fun e => h d rfl e.symm)]
theorem put_comm {g : Look} {d e : Option Nat} {v u : AV} (h : ∀ x, d = some x → e ≠ some x) : (g.put d v).put e u = (g.put e u).put d v := by
  cases d with
  | none => rfl
  | some d => cases e with
    | none => rfl
    | some e =>
      have : d ≠ e := fun q => h d rfl (by rw [q])
      funext t
      simp only [Look.put]
      by_cases h1 : t = e
      · subst h1; simp; intro q; exact absurd q.symm this
      · simp [h1]

/-- Two operations of which neither must come before the other. -/
structure Ind (P : Program) (ops : Array Oper) (pl : Plan) (p i : Nat) (op oi : Oper) : Prop where
  hp : ops[p]? = some op
  hi : ops[i]? = some oi
  ne : p ≠ i
  w1 : ∀ d, op.dst = some d → d ∉ looks ops oi ∧ oi.dst ≠ some d
  w2 : ∀ d, oi.dst = some d → d ∉ looks ops op
  hh : ¬ (clOf P pl p op = .heavy ∧ (clOf P pl i oi = .heavy ∨ clOf P pl i oi = .load))
  lh : clOf P pl p op = .load → clOf P pl i oi = .heavy → p ∈ pl.keeps i
  fh : clOf P pl p op = .flt → clOf P pl i oi = .heavy → p ∉ pl.needs i
  hf : clOf P pl p op = .heavy → clOf P pl i oi = .flt → i ∉ pl.needs p

theorem look_eq {g : Look} {dst : Option Nat} {v : AV} {o : Oper} (h : ∀ d, dst = some d → d ∉ looks ops o) : ∀ t, t ∈ looks ops o → (g.put dst v) t = g t :=
  fun _ ht => put_get_ne fun d hd e => h d hd (e ▸ ht)
theorem act_put {g : Look} {dst : Option Nat} {v : AV} {o : Oper} (h : ∀ d, dst = some d → d ∉ looks ops o) :
    guardV ops (g.put dst v) o = guardV ops g o ∧ evOp P K (g.put dst v) o = evOp P K g o ∧ evFlt P (g.put dst v) o = evFlt P g o :=
  ⟨guard_congr (look_eq h), evOp_congr fun t ht => look_eq h t (mem_looks ht), evFlt_congr fun t ht => look_eq h t (mem_looks ht)⟩

theorem upd_comm {p i : Nat} {op oi : Oper} (h : Ind P ops pl p i op oi) (S : DS) (vp vi : AV) :
    upd P K ops pl n0 i (upd P K ops pl n0 p S vp) vi = upd P K ops pl n0 p (upd P K ops pl n0 i S vi) vp := by
  have a1 := act_put (P := P) (K := K) (ops := ops) (g := S.g) (dst := op.dst) (v := vp) (o := oi) fun d hd => (h.w1 d hd).1
  have a2 := act_put (P := P) (K := K) (ops := ops) (g := S.g) (dst := oi.dst) (v := vi) (o := op) h.w2
  rw [upd_eq h.hp, upd_eq h.hi, upd_eq h.hi, upd_eq h.hp]
  have hg : (S.g.put op.dst vp).put oi.dst vi = (S.g.put oi.dst vi).put op.dst vp := put_comm fun x hx => (h.w1 x hx).2
  have hG : updG P pl n0 i oi { g := S.g.put op.dst vp, G := updG P pl n0 p op S, R := updR P K ops pl p op S vp } = updG P pl n0 p op { g := S.g.put oi.dst vi, G := updG P pl n0 i oi S, R := updR P K ops pl i oi S vi } := by
    funext b
    have hne := h.ne
    have hfh := h.fh
    have hhf := h.hf
    simp only [updG, a1.2.2, a2.2.2]
    cases hcp : clOf P pl p op <;> cases hci : clOf P pl i oi <;> simp only
    · by_cases e1 : b = n0 + i
      · rw [if_pos e1, if_neg (by omega), if_pos e1]
      · rw [if_neg e1, if_neg e1]
    · by_cases e1 : b = n0 + p
      · have : ¬ ((pl.needs i).any (fun f => b == n0 + f) = true) := by
          rw [List.any_eq_true]
          rintro ⟨f, hf, e⟩
          have : f = p := by simp at e; omega
          exact hfh hcp hci (this ▸ hf)
        rw [if_neg this, if_pos e1, if_pos e1]
      · rw [if_neg e1, if_neg e1]
    · by_cases e1 : b = n0 + i
      · have : ¬ ((pl.needs p).any (fun f => b == n0 + f) = true) := by
          rw [List.any_eq_true]
          rintro ⟨f, hf, e⟩
          have : f = i := by simp at e; omega
          exact hhf hcp hci (this ▸ hf)
        rw [if_pos e1, if_neg this, if_pos e1]
      · rw [if_neg e1, if_neg e1]
    · by_cases e1 : (pl.needs i).any (fun f => b == n0 + f) = true
      · simp [e1]
      · simp [e1]
  have hR : updR P K ops pl i oi { g := S.g.put op.dst vp, G := updG P pl n0 p op S, R := updR P K ops pl p op S vp } vi = updR P K ops pl p op { g := S.g.put oi.dst vi, G := updG P pl n0 i oi S, R := updR P K ops pl i oi S vi } vp := by
    have hne := h.ne
    simp only [updR, a1.1, a1.2.1, a2.1, a2.2.1]
    cases hcp : clOf P pl p op <;> cases hci : clOf P pl i oi <;> simp only
    funext j
    by_cases e1 : j = i
    · rw [if_pos e1, if_neg (show ¬ j = p by omega), if_pos e1]
    · rw [if_neg e1, if_neg e1]
  simp only [hg, hG, hR]

theorem chks_same {R R' : Nat → Option (M AV × AV)} : ∀ {l : List Nat}, (∀ j ∈ l, R j = R' j) → chks R l = chks R' l
  | [], _ => rfl
  | j :: l, h => by
    simp only [chks]
    rw [h j (by simp), chks_same (l := l) fun q hq => h q (by simp [hq])]
theorem chks_still {R : Nat → Option (M AV × AV)} : ∀ {l : List Nat} {H H' : AH}, chks R l H = some ((), H') → H' = H ∧ ∀ j ∈ l, ∀ m v, R j = some (m, v) → m H = some (v, H)
  | [], H, H', h => by simp [chks, ret] at h; exact ⟨h.symm, fun j hj => by simp at hj⟩
  | j :: l, H, H', h => by
    simp only [chks, bnd] at h
    cases hR : R j with
    | none =>
      simp only [hR, ret] at h
      obtain ⟨h1, h2⟩ := chks_still h
      exact ⟨h1, fun q hq m v e => by
        rcases List.mem_cons.1 hq with rfl | hq
        · rw [hR] at e; cases e
        · exact h2 q hq m v e⟩
    | some mv =>
      obtain ⟨m, v⟩ := mv
      simp only [hR] at h
      by_cases hc : m H = some (v, H)
      · have hk : chk m v H = some ((), H) := by unfold chk; rw [if_pos hc]
        rw [hk] at h
        obtain ⟨h1, h2⟩ := chks_still h
        exact ⟨h1, fun q hq m' v' e => by
          rcases List.mem_cons.1 hq with rfl | hq
          · rw [hR] at e; cases e; exact hc
          · exact h2 q hq m' v' e⟩
      · have hk : chk m v H = none := by unfold chk; rw [if_neg hc]
        rw [hk] at h
        cases h
theorem chks_fewer {R R' : Nat → Option (M AV × AV)} : ∀ {l : List Nat} {H : AH}, (∀ j ∈ l, R' j = none ∨ R' j = R j) → chks R l H = some ((), H) → chks R' l H = some ((), H)
  | [], H, _, h => h
  | j :: l, H, hj, h => by
    have hall := chks_still h
    simp only [chks, bnd] at h ⊢
    have htail : chks R l H = some ((), H) := by
      cases hR : R j with
      | none => simpa [hR, ret] using h
      | some mv =>
        obtain ⟨m, v⟩ := mv
        have hc := hall.2 j (by simp) m v hR
        have hk : chk m v H = some ((), H) := by unfold chk; rw [if_pos hc]
        simpa [hR, hk] using h
    have ih := chks_fewer (l := l) (fun q hq => hj q (by simp [hq])) htail
    cases hR' : R' j with
    | none => simpa [ret] using ih
    | some mv =>
      obtain ⟨m, v⟩ := mv
      have hRj : R j = some (m, v) := by
        rcases hj j (by simp) with e | e
        · rw [hR'] at e; cases e
        · rw [← e]; exact hR'
      have hc := hall.2 j (by simp) m v hRj
      have hk : chk m v H = some ((), H) := by unfold chk; rw [if_pos hc]
      simpa [hk] using ih

/-- The exchange. -/
theorem swap {α : Type} {p i : Nat} {op oi : Oper} (h : Ind P ops pl p i op oi) {S : DS} (hRp : S.R p = none) {l : List Nat} {k : DS → M α} {H : AH} {r : α × AH}
    (he : dr P K ops pl n0 (p :: i :: l) k S H = some r) : dr P K ops pl n0 (i :: p :: l) k S H = some r := by
  have a1 := fun v => act_put (P := P) (K := K) (ops := ops) (g := S.g) (dst := op.dst) (v := v) (o := oi) fun d hd => (h.w1 d hd).1
  have a2 := fun v => act_put (P := P) (K := K) (ops := ops) (g := S.g) (dst := oi.dst) (v := v) (o := op) h.w2
  simp only [dr, bnd] at he
  -- what each comes to does not hang on the other
  have hopP : ∀ v, opM P K ops pl n0 p (upd P K ops pl n0 i S v) = opM P K ops pl n0 p S := by
    intro v
    rw [upd_eq h.hi]
    cases hcp : clOf P pl p op with
    | flt => rw [opM_flt h.hp hcp, opM_flt h.hp hcp]; simp only [(a2 v).2.2]
    | pure => rw [(opM_pure h.hp hcp).1, (opM_pure h.hp hcp).1]; simp only [act, (a2 v).1, (a2 v).2.1]
    | load => rw [opM_load h.hp hcp, opM_load h.hp hcp]; simp only [(a2 v).1, (a2 v).2.1]
    | heavy =>
      rw [opM_heavy h.hp hcp, opM_heavy h.hp hcp]
      have hci : clOf P pl i oi = .pure ∨ clOf P pl i oi = .flt := by
        cases hci : clOf P pl i oi with
        | pure => exact .inl rfl
        | flt => exact .inr rfl
        | load => exact absurd ⟨hcp, .inr hci⟩ h.hh
        | heavy => exact absurd ⟨hcp, .inl hci⟩ h.hh
      have hR : updR P K ops pl i oi S v = S.R := by unfold updR; rcases hci with e | e <;> rw [e]
      have hm : mrg n0 (pl.needs p) (updG P pl n0 i oi S) = mrg n0 (pl.needs p) S.G := by
        funext H
        simp only [mrg]
        congr 3
        funext b
        by_cases hb : (pl.needs p).any (fun i => b == n0 + i) = true
        · rw [if_pos hb, if_pos hb]
          have : updG P pl n0 i oi S b = S.G b := by
            unfold updG
            rcases hci with e | e <;> rw [e]
            simp only
            rw [if_neg]
            intro eb
            rw [List.any_eq_true] at hb
            obtain ⟨f, hf, ef⟩ := hb
            have : f = i := by simp at ef; omega
            exact h.hf hcp e (this ▸ hf)
          rw [this]
        · rw [if_neg hb, if_neg hb]
      simp only [act, (a2 v).1, (a2 v).2.1, hR, hm]
  have hopI : (clOf P pl p op = .load → clOf P pl i oi ≠ .heavy) → ∀ v, opM P K ops pl n0 i (upd P K ops pl n0 p S v) = opM P K ops pl n0 i S := by
    intro hlh v
    rw [upd_eq h.hp]
    cases hci : clOf P pl i oi with
    | flt => rw [opM_flt h.hi hci, opM_flt h.hi hci]; simp only [(a1 v).2.2]
    | pure => rw [(opM_pure h.hi hci).1, (opM_pure h.hi hci).1]; simp only [act, (a1 v).1, (a1 v).2.1]
    | load => rw [opM_load h.hi hci, opM_load h.hi hci]; simp only [(a1 v).1, (a1 v).2.1]
    | heavy =>
      rw [opM_heavy h.hi hci, opM_heavy h.hi hci]
      have hcp : clOf P pl p op = .pure ∨ clOf P pl p op = .flt := by
        cases hcp : clOf P pl p op with
        | pure => exact .inl rfl
        | flt => exact .inr rfl
        | load => exact absurd hci (hlh hcp)
        | heavy => exact absurd ⟨hcp, .inl hci⟩ h.hh
      have hR : updR P K ops pl p op S v = S.R := by unfold updR; rcases hcp with e | e <;> rw [e]
      have hm : mrg n0 (pl.needs i) (updG P pl n0 p op S) = mrg n0 (pl.needs i) S.G := by
        funext H
        simp only [mrg]
        congr 3
        funext b
        by_cases hb : (pl.needs i).any (fun i => b == n0 + i) = true
        · rw [if_pos hb, if_pos hb]
          have : updG P pl n0 p op S b = S.G b := by
            unfold updG
            rcases hcp with e | e <;> rw [e]
            simp only
            rw [if_neg]
            intro eb
            rw [List.any_eq_true] at hb
            obtain ⟨f, hf, ef⟩ := hb
            have : f = p := by simp at ef; omega
            exact h.fh e hci (this ▸ hf)
          rw [this]
        · rw [if_neg hb, if_neg hb]
      simp only [act, (a1 v).1, (a1 v).2.1, hR, hm]
  have indep : ∀ (j : Nat) (o : Oper) (S : DS), ops[j]? = some o → (clOf P pl j o = .pure ∨ clOf P pl j o = .flt) → Indep (opM P K ops pl n0 j S) := by
    intro j o S ho hc
    rcases hc with hc | hc
    · obtain ⟨e, hd⟩ := opM_pure (K := K) (n0 := n0) (S := S) ho hc
      rw [e]
      exact (pure_indep hd).guarded _
    · rw [opM_flt ho hc]
      cases o.guard with
      | some q => exact ⟨none, fun _ => rfl⟩
      | none =>
        simp only
        cases hf : evFlt P S.g o with
        | none => exact ⟨none, fun _ => rfl⟩
        | some r => exact ⟨some (r.2.2 (n0 + j)), fun _ => rfl⟩
  cases hP : opM P K ops pl n0 p S H with
  | none => simp [hP] at he
  | some rp =>
    obtain ⟨vp, H1⟩ := rp
    simp only [hP] at he
    cases hI : opM P K ops pl n0 i (upd P K ops pl n0 p S vp) H1 with
    | none => simp [hI] at he
    | some ri =>
      obtain ⟨vi, H2⟩ := ri
      simp only [hI] at he
      have fin : ∀ Hm, opM P K ops pl n0 i S H = some (vi, Hm) → opM P K ops pl n0 p (upd P K ops pl n0 i S vi) Hm = some (vp, H2) →
          dr P K ops pl n0 (i :: p :: l) k S H = some r := by
        intro Hm h1 h2
        simp only [dr, bnd, h1, h2]
        rw [← upd_comm h]
        exact he
      by_cases hpi : clOf P pl p op = .pure ∨ clOf P pl p op = .flt
      · -- the first one hangs on no memory
        obtain ⟨rp, hrp⟩ := indep p op S h.hp hpi
        rw [hrp] at hP
        cases rp with
        | none => simp at hP
        | some q =>
          simp only [Option.map_some, Option.some.injEq, Prod.mk.injEq] at hP
          obtain ⟨rfl, rfl⟩ := hP
          rw [hopI (fun e => by rcases hpi with q | q <;> rw [q] at e <;> cases e)] at hI
          exact fin H2 hI (by rw [hopP, hrp]; rfl)
      · by_cases hii : clOf P pl i oi = .pure ∨ clOf P pl i oi = .flt
        · obtain ⟨ri, hri⟩ := indep i oi (upd P K ops pl n0 p S vp) h.hi hii
          rw [hri] at hI
          cases ri with
          | none => simp at hI
          | some q =>
            simp only [Option.map_some, Option.some.injEq, Prod.mk.injEq] at hI
            obtain ⟨rfl, rfl⟩ := hI
            have := hopI (fun _ e => by rcases hii with q | q <;> rw [q] at e <;> cases e) vp
            rw [this] at hri
            exact fin H (by rw [hri]; rfl) (by rw [hopP]; exact hP)
        · -- a load, and behind it a load or a writer
          have hcp : clOf P pl p op = .load := by
            cases hcp : clOf P pl p op with
            | pure => exact absurd (.inl hcp) hpi
            | flt => exact absurd (.inr hcp) hpi
            | load => rfl
            | heavy =>
              exfalso
              apply h.hh
              refine ⟨hcp, ?_⟩
              cases hci : clOf P pl i oi with
              | pure => exact absurd (.inl hci) hii
              | flt => exact absurd (.inr hci) hii
              | load => exact .inr rfl
              | heavy => exact .inl rfl
          have hstP : Still (opM P K ops pl n0 p S) := by rw [opM_load h.hp hcp]; exact (still_ro _).guarded _
          have e1 := hstP _ _ _ hP
          subst e1
          by_cases hci : clOf P pl i oi = .heavy
          · rw [upd_eq h.hp] at hI
            rw [opM_heavy h.hi hci] at hI
            have hG : updG P pl n0 p op S = S.G := by unfold updG; rw [hcp]
            simp only [hG, act, (a1 vp).1, (a1 vp).2.1] at hI
            simp only [bnd, mrg] at hI
            split at hI
            · rename_i v3 H3 h3
              split at hI
              · rename_i u4 H4 h4
                simp only [ret, Option.some.injEq, Prod.mk.injEq] at hI
                obtain ⟨rfl, rfl⟩ := hI
                obtain ⟨e4, hall⟩ := chks_still h4
                subst e4
                have hpk := h.lh hcp hci
                refine fin H4 ?_ ?_
                · rw [opM_heavy h.hi hci]
                  simp only [bnd, mrg, act, h3]
                  have := chks_fewer (R := updR P K ops pl p op S vp) (R' := S.R) (l := pl.keeps i) (fun j _ => by
                    by_cases ej : j = p
                    · subst ej; exact .inl hRp
                    · right; unfold updR; rw [hcp]; simp only; rw [if_neg ej]) h4
                  rw [this]
                  rfl
                · rw [hopP, opM_load h.hp hcp]
                  rw [opM_load h.hp hcp] at hP
                  cases hgd : guardV ops S.g op with
                  | none => simp [hgd, Ab.guarded, fail] at hP
                  | some b =>
                    cases b with
                    | false => simp only [hgd, Ab.guarded, ret] at hP ⊢; simp only [Option.some.injEq, Prod.mk.injEq, and_true] at hP ⊢; exact hP
                    | true =>
                      have hrec : updR P K ops pl p op S vp p = some (ro (evOp P K S.g op), vp) := by
                        unfold updR; rw [hcp]; simp [hgd]
                      have := hall p hpk _ _ hrec
                      simpa [Ab.guarded] using this
              · cases hI
            · cases hI
          · have hci' : clOf P pl i oi = .load := by
              cases hci2 : clOf P pl i oi with
              | pure => exact absurd (.inl hci2) hii
              | flt => exact absurd (.inr hci2) hii
              | load => rfl
              | heavy => exact absurd hci2 hci
            rw [hopI (fun _ e => hci e)] at hI
            have hstI : Still (opM P K ops pl n0 i S) := by rw [opM_load h.hi hci']; exact (still_ro _).guarded _
            have e2 := hstI _ _ _ hI
            subst e2
            exact fin H2 hI (by rw [hopP]; exact hP)
end
end Go.Ab
