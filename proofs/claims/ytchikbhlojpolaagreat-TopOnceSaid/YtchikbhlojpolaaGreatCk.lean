/- Runs that are reckoned: from a list of blocks to a list of blocks. -/
import Derived.Test.YtchikbhlojpolaaGreatTG
import Derived.Test.YtchikbhlojpolaaGreatAb23
namespace Go.Ab
open Go Go.RowKit

/-- Memory has these blocks, and this is the next number. -/
structure Has (H : AH) (nx : Nat) (L : List (Nat × Blk)) : Prop where
  nx : H.nx = nx
  bk : ∀ p ∈ L, H.bk p.1 = some p.2
noncomputable section
def onU (nx : Nat) (L : List (Nat × Blk)) (m : MS UT AV) : RR := upU (L.map fun p => (p.1, some p.2)) (em 6) fun t => m ⟨nx, t⟩
def vEq (a b : AV) : Bool := match a with
  | .tup cs => (match b with
    | .tup ds => csEq cs ds
    | _ => false)
  | a => avEq a b
theorem vEq_of {a b : AV} (h : vEq a b = true) : a = b := by
  unfold vEq at h
  split at h
  · split at h
    · rw [csEq_of h]
    · cases h
  · exact avEq_of h
def bEq : Option Blk → Blk → Bool
  | some (.cells cs es g o), .cells ds et k p => csEq cs ds && (Nat.beq es et && ((g == k) && (o == p)))
  | _, _ => false
theorem bEq_of {x : Option Blk} {y : Blk} (h : bEq x y = true) : x = some y := by
  unfold bEq at h
  split at h
  · simp only [nbeq, Bool.and_eq_true, decide_eq_true_eq, beq_iff_eq] at h
    obtain ⟨h1, h2, h3, h4⟩ := h
    rw [csEq_of h1, h2, h3, h4]
  · cases h
def lEq (T : UT) (L : List (Nat × Blk)) : Bool := List.rec (motive := fun _ => Bool) true (fun p _ ih => bif bEq (fnd T.tr p.1) p.2 then ih else false) L
theorem lEq_of {T : UT} {L : List (Nat × Blk)} (h : lEq T L = true) : ∀ p ∈ L, find6 T.tr p.1 = some p.2 := by
  induction L with
  | nil => intro p hp; cases hp
  | cons q L ih =>
    have h' : (bif bEq (fnd T.tr q.1) q.2 then lEq T L else false) = true := h
    cases hb : bEq (fnd T.tr q.1) q.2 with
    | false => rw [hb] at h'; cases h'
    | true =>
      rw [hb] at h'
      intro p hp
      rcases List.mem_cons.1 hp with rfl | hp
      · exact bEq_of hb
      · exact ih h' p hp
def ckU (v : AV) (nx : Nat) (L : List (Nat × Blk)) (r : RR) : Bool := Option.rec (motive := fun _ => Bool) false (fun p => vEq p.1 v && (Nat.beq p.2.nx nx && lEq p.2 L)) r
end
theorem em_none : ∀ (n k : Nat), getL n (em n) k = none
  | 0, k => by cases k <;> rfl
  | n + 1, k => by
    show getL n (selD (em n) (k % 8) (⟨em n, em n, em n, em n, em n, em n, em n, em n⟩ : N8 (Lv n))) (k / 8) = none
    have : selD (em n) (k % 8) (⟨em n, em n, em n, em n, em n, em n, em n, em n⟩ : N8 (Lv n)) = em n := by
      have h := Nat.mod_lt k (show 0 < 8 by omega)
      generalize k % 8 = d at h
      match d, h with
      | 0, _ | 1, _ | 2, _ | 3, _ | 4, _ | 5, _ | 6, _ | 7, _ => rfl
    rw [this]
    exact em_none n _
theorem upF_mem : ∀ (l : List (Nat × Option Blk)) (f : Bk) (b : Nat) (x : Blk), upF l f b = some x → (b, some x) ∈ l ∨ f b = some x
  | [], f, b, x, h => .inr h
  | (c, y) :: l, f, b, x, h => by
    simp only [upF] at h
    rcases upF_mem l _ b x h with h | h
    · exact .inl (List.mem_cons_of_mem _ h)
    · by_cases e : b = c
      · subst e
        rw [if_pos rfl] at h
        subst h
        exact .inl (List.mem_cons_self ..)
      · rw [if_neg e] at h; exact .inr h
theorem onU_some {nx : Nat} {L : List (Nat × Blk)} {m : MS UT AV} {r : AV × UT} (h : onU nx L m = some r) {H : AH} (hH : Has H nx L) : ∃ T, m T = some r ∧ Ru T H := by
  obtain ⟨t', h1, h2⟩ := upU_some _ h
  refine ⟨⟨nx, t'⟩, h1, hH.nx, fun b x e => ?_⟩
  have e : find6 t' b = some x := e
  rw [h2] at e
  rcases upF_mem _ _ _ _ e with e | e
  · simp only [List.mem_map, Prod.mk.injEq, Option.some.injEq] at e
    obtain ⟨p, hp, rfl, rfl⟩ := e
    exact hH.bk p hp
  · have := em_none 6 b
    rw [← find6_eq] at this
    rw [this] at e; cases e
theorem ck_run {m : MS UT AV} {m' : M AV} (hs : Sm Ru m m') {nx nx' : Nat} {L L' : List (Nat × Blk)} {v : AV} (h : ckU v nx' L' (onU nx L m) = true) {H : AH} (hH : Has H nx L) :
    ∃ H', m' H = some (v, H') ∧ Has H' nx' L' := by
  cases hr : onU nx L m with
  | none => rw [hr] at h; cases h
  | some r =>
    rw [hr] at h
    obtain ⟨T, h1, h2⟩ := onU_some hr hH
    obtain ⟨u, T'⟩ := r
    have h : (vEq u v && (Nat.beq T'.nx nx' && lEq T' L')) = true := h
    simp only [Bool.and_eq_true, nbeq, decide_eq_true_eq] at h
    obtain ⟨e1, e2, e3⟩ := h
    obtain ⟨H', k1, k2⟩ := hs _ _ _ _ h2 h1
    rw [vEq_of e1] at k1
    exact ⟨H', k1, k2.1.trans e2, fun p hp => k2.2 _ _ (lEq_of e3 p hp)⟩
/-- A part's end as a value. -/
def encO : Out → AV
  | .nrm ws => .tup (.bool true :: ws)
  | .ext i ws => .tup (.int .i64 i :: ws)
  | .ret vs => .tup (.bool false :: vs)
theorem encO_inj {a b : Out} (h : encO a = encO b) : a = b := by
  cases a <;> cases b <;> simp [encO] at h ⊢
  all_goals first
    | exact h
    | (obtain ⟨h1, h2⟩ := h; exact ⟨by omega, h2⟩)
noncomputable def enM {S : Type} (m : MS S Out) : MS S AV := bnK m fun o => ret (encO o)
theorem enM_sm {S T : Type} {R : S → T → Prop} {m : MS S Out} {m' : MS T Out} (h : Sm R m m') : Sm R (enM m) (enM m') := Sm.bnK h fun _ => Sm.ret _
theorem ck_runO {m : MS UT Out} {m' : M Out} (hs : Sm Ru m m') {nx nx' : Nat} {L L' : List (Nat × Blk)} {o : Out} (h : ckU (encO o) nx' L' (onU nx L (enM m)) = true) {H : AH} (hH : Has H nx L) :
    ∃ H', m' H = some (o, H') ∧ Has H' nx' L' := by
  obtain ⟨H', h1, h2⟩ := ck_run (enM_sm hs) h hH
  refine ⟨H', ?_, h2⟩
  simp only [enM, bnK_eq, bnd] at h1
  cases hm : m' H with
  | none => simp [hm] at h1
  | some p =>
    simp only [hm, ret, Option.some.injEq, Prod.mk.injEq] at h1
    rw [encO_inj h1.1.symm, ← h1.2]
/-- Stepping. -/
theorem stp {α β : Type} {m : M α} {f : α → M β} {H H1 : AH} {a : α} {r : β × AH} (h : m H = some (a, H1)) (k : f a H1 = some r) : bnK m f H = some r := by
  simp only [bnK_eq, bnd, h]; exact k
theorem loop_round {F : List AV → M Out} {ws ws' : List AV} {H H1 : AH} (h : F ws H = some (.nrm ws', H1)) {r : Out × AH} (k : loopW F ws' H1 = some r) : loopW F ws H = some r := by
  rw [loopW_eq]; simp only [bnd, h]; exact k
theorem loop_out {F : List AV → M Out} {ws : List AV} {H : AH} {r : Out × AH} (h : F ws H = some r) (hn : ∀ ws', r.1 ≠ .nrm ws') : loopW F ws H = some r := by
  rw [loopW_eq]; simp only [bnd, h]
  obtain ⟨o, H1⟩ := r
  cases o with
  | nrm ws => exact absurd rfl (hn ws)
  | ext i ws => rfl
  | ret vs => rfl
theorem stp_w0 {m : M Out} {X : M Out} {H H1 : AH} {ws : List AV} {r : Out × AH} (h : m H = some (.nrm ws, H1)) (k : X H1 = some r) : bnK m (dsp (w0 X)) H = some r := stp h k
theorem stp_w1 {m : M Out} {X : AV → M Out} {H H1 : AH} {a : AV} {r : Out × AH} (h : m H = some (.nrm [a], H1)) (k : X a H1 = some r) : bnK m (dsp (w1 X)) H = some r := stp h k
theorem stp_w2 {m : M Out} {X : AV → AV → M Out} {H H1 : AH} {a b : AV} {r : Out × AH} (h : m H = some (.nrm [a, b], H1)) (k : X a b H1 = some r) : bnK m (dsp (w2 X)) H = some r := stp h k
theorem stp_w3 {m : M Out} {X : AV → AV → AV → M Out} {H H1 : AH} {a b c : AV} {r : Out × AH} (h : m H = some (.nrm [a, b, c], H1)) (k : X a b c H1 = some r) : bnK m (dsp (w3 X)) H = some r := stp h k
theorem stp_ext {m : M Out} {X : List AV → M Out} {H H1 : AH} {i : Nat} {ws : List AV} (h : m H = some (.ext i ws, H1)) : bnK m (dsp X) H = some (.ext i ws, H1) := stp h rfl
theorem stp_b0 {m : M Out} {X : M Out} {i : Nat} {H H1 : AH} {ws : List AV} {r : Out × AH} (h : m H = some (.ext i ws, H1) ∨ m H = some (.nrm ws, H1)) (k : X H1 = some r) : bnK m (dspB i (w0 X)) H = some r := by
  rcases h with h | h
  · refine stp h ?_; simp only [Ab.dspB, if_true]; exact k
  · exact stp h k
theorem stp_b1 {m : M Out} {X : AV → M Out} {i : Nat} {H H1 : AH} {a : AV} {r : Out × AH} (h : m H = some (.ext i [a], H1) ∨ m H = some (.nrm [a], H1)) (k : X a H1 = some r) : bnK m (dspB i (w1 X)) H = some r := by
  rcases h with h | h
  · refine stp h ?_; simp only [Ab.dspB, if_true]; exact k
  · exact stp h k
theorem stp_b2 {m : M Out} {X : AV → AV → M Out} {i : Nat} {H H1 : AH} {a b : AV} {r : Out × AH} (h : m H = some (.ext i [a, b], H1) ∨ m H = some (.nrm [a, b], H1)) (k : X a b H1 = some r) : bnK m (dspB i (w2 X)) H = some r := by
  rcases h with h | h
  · refine stp h ?_; simp only [Ab.dspB, if_true]; exact k
  · exact stp h k
theorem stp_b3 {m : M Out} {X : AV → AV → AV → M Out} {i : Nat} {H H1 : AH} {a b c : AV} {r : Out × AH} (h : m H = some (.ext i [a, b, c], H1) ∨ m H = some (.nrm [a, b, c], H1)) (k : X a b c H1 = some r) : bnK m (dspB i (w3 X)) H = some r := by
  rcases h with h | h
  · refine stp h ?_; simp only [Ab.dspB, if_true]; exact k
  · exact stp h k
theorem fnR_ret' {m : M Out} {H H' : AH} {vs : List AV} (h : m H = some (.ret vs, H')) : fnR m H = some (packA vs, H') := by
  simp only [fnR, bnd, h]; rfl

/-- A later world, in which nothing old has turned. -/
theorem RelG.later {W0 : World} {μ : Mu} {w w' : World} {H : AH} {G : Nat → Option Blk} (h : RelG W0 μ w H G) (hb : Below w.heap.size w w') : RelG W0 μ w' H G := by
  refine ⟨⟨h.rel.below.trans (hb.mono h.rel.below.size), ?_, ?_, h.rel.apart, h.rel.fresh⟩, h.dis⟩
  · intro b cs es g own hx
    obtain ⟨l, hl, hr⟩ := h.rel.row b cs es g own hx
    exact ⟨l, hl, hr.same (Le.refl _) (hb.block _ (h.rel.blk_lt hx hl))⟩
  · intro b s pos hx
    obtain ⟨l, hl, h1, h2, h3⟩ := h.rel.iter b s pos hx
    exact ⟨l, hl, by rw [hb.block _ (h.rel.blk_lt hx hl)]; exact h1, h2, h3⟩
def AH0 : AH := ⟨0, fun _ => none⟩
theorem relG0 (w : World) : RelG w (fun _ => none) w AH0 (fun _ => none) := by
  refine ⟨⟨Below.refl _ _, ?_, ?_, ?_, fun _ _ => rfl⟩, fun _ _ => rfl⟩
  · intro b cs es g own h; simp [AH.plus, AH0] at h
  · intro b s pos h; simp [AH.plus, AH0] at h
  · intro b b' x y l m _ h; simp [AH.plus, AH0] at h
/-- A function of nothing that tells a bool, whatever there is. -/
def sB (b : Bool) (args : List AV) : M AV := match args with
  | [] => ret (.bool b)
  | _ => fail
theorem Good.closed {P : Program} {S : Sums} {A : FuncId → Ann} {f : FuncId} {b : Bool} (hm : P.follows .mixedOrders = true) (hS : GoodS P S)
    (hfn : ∃ fn c, P.funcs[f]? = some fn ∧ fn.body = some c ∧ fn.name ≠ "runtime.NumGoroutine") {H' : AH} (h : callS S A P f [] AH0 = some (.bool b, H')) : Good P f (sB b) := by
  refine ⟨hfn, ?_⟩
  intro W0 G args vs μ w H H1 v hr hv hs
  cases args with
  | cons a l => cases hs
  | nil =>
    cases hv
    simp only [sB, ret, Option.some.injEq, Prod.mk.injEq] at hs
    obtain ⟨rfl, rfl⟩ := hs
    refine Calls.mono (calls_ofS hm hS (relG0 w) .nil h) fun e w' ⟨v', μ', he, hl, hg, hvr⟩ => ?_
    exact ⟨v', μ, he, ⟨fun _ _ h => h, fun _ _ => rfl, Nat.le_refl _⟩, hr.later hg.rel.below, by cases hvr; exact .bool _⟩
end Go.Ab
namespace Go.Ab
open Go
/-- So many rounds, each of which goes on. -/
def rnd {S : Type} (F : List AV → MS S Out) : Nat → List AV → MS S Out
  | 0, ws => ret (.nrm ws)
  | n + 1, ws => bnd (F ws) fun o => match o with
    | .nrm ws => rnd F n ws
    | _ => fail
theorem Sm.rnd {S T : Type} {R : S → T → Prop} {F : List AV → MS S Out} {F' : List AV → MS T Out} (h : ∀ ws, Sm R (F ws) (F' ws)) : ∀ (n : Nat) (ws : List AV), Sm R (rnd F n ws) (Ab.rnd F' n ws)
  | 0, ws => Sm.ret _
  | n + 1, ws => by
    refine Sm.bnd (h ws) fun o => ?_
    cases o with
    | nrm ws => exact Sm.rnd h n ws
    | ext i ws => exact Sm.fail
    | ret vs => exact Sm.fail
theorem loop_rnd {F : List AV → M Out} : ∀ {n : Nat} {ws ws' : List AV} {H H1 : AH} {r : Out × AH}, rnd F n ws H = some (.nrm ws', H1) → loopW F ws' H1 = some r → loopW F ws H = some r
  | 0, ws, ws', H, H1, r, h, k => by
    simp only [rnd, ret, Option.some.injEq, Prod.mk.injEq, Out.nrm.injEq] at h
    obtain ⟨rfl, rfl⟩ := h; exact k
  | n + 1, ws, ws', H, H1, r, h, k => by
    simp only [rnd, bnd] at h
    cases hf : F ws H with
    | none => simp [hf] at h
    | some p =>
      obtain ⟨o, H2⟩ := p
      simp only [hf] at h
      cases o with
      | nrm ws2 => exact loop_round hf (loop_rnd h k)
      | ext i ws2 => cases h
      | ret vs => cases h
-- short words for states
abbrev tt : AV := .bool true
abbrev ff : AV := .bool false
abbrev i (n : Int) : AV := .int .i64 n
abbrev p (b o : Nat) : AV := .ptr (some (b, o))
abbrev p0 : AV := .ptr none
abbrev s0 : AV := .sl none 0 (some 0)
abbrev su (b o n : Nat) : AV := .sl (some (b, o)) n none
abbrev sk (b o n c : Nat) : AV := .sl (some (b, o)) n (some c)
noncomputable def bs (l : List Nat) : List AV := List.rec (motive := fun _ => List AV) [] (fun n _ ih => .int .u8 (.ofNat n) :: ih) l
end Go.Ab
