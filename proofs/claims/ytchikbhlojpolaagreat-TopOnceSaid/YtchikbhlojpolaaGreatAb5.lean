/- The abstract machine: its steps stand for the model's: operations that do not call. Part 1: memory. -/
import Derived.Test.YtchikbhlojpolaaGreatAb4
namespace Go.Ab
open Go Go.RowKit

structure Lx (n : Nat) (μ : Mu) (n' : Nat) (μ' : Mu) : Prop where
  le : Le μ μ'
  old : ∀ b, b < n → μ' b = μ b
  nx : n ≤ n'
theorem Lx.refl (n : Nat) (μ : Mu) : Lx n μ n μ := ⟨Le.refl _, fun _ _ => rfl, Nat.le_refl _⟩
theorem Lx.trans {n n1 n2 : Nat} {a b c : Mu} (h : Lx n a n1 b) (k : Lx n1 b n2 c) : Lx n a n2 c :=
  ⟨h.le.trans k.le, fun x hx => (k.old x (Nat.lt_of_lt_of_le hx h.nx)).trans (h.old x hx), Nat.le_trans h.nx k.nx⟩

/-- What a part of the abstract machine comes to, the model's part comes to as well. -/
def Sim (P : Program) (W0 : World) (G : Nat → Option Blk) {α β : Type} (μ : Mu) (w : World) (H : AH) (R : Mu → α → β → Prop) (m : M α) (s : Sem β) : Prop :=
  ∀ a H', m H = some (a, H') → ∃ b w' μ', s.run P w = .ok b w' ∧ Lx H.nx μ H'.nx μ' ∧ RelG W0 μ' w' H' G ∧ R μ' a b

section
variable {P : Program} {W0 : World} {G : Nat → Option Blk} {α β γ δ : Type} {μ : Mu} {w : World} {H : AH}

theorem Sim.ret {R : Mu → α → β → Prop} {a : α} {s : Sem β} {b : β} (hs : s.run P w = .ok b w) (hr : RelG W0 μ w H G) (h : R μ a b) : Sim P W0 G μ w H R (ret a) s := by
  intro a' H' e
  simp only [Ab.ret, Option.some.injEq, Prod.mk.injEq] at e
  obtain ⟨rfl, rfl⟩ := e
  exact ⟨b, w, μ, hs, Lx.refl _ _, hr, h⟩
theorem Sim.fail {R : Mu → α → β → Prop} {s : Sem β} : Sim P W0 G μ w H R (fail : M α) s := by
  intro a H' e; simp [Ab.fail] at e
theorem Sim.need {R : Mu → α → β → Prop} {x : Option γ} {f : γ → M α} {s : Sem β} (h : ∀ a, x = some a → Sim P W0 G μ w H R (f a) s) : Sim P W0 G μ w H R (need x f) s := by
  cases x with
  | none => exact Sim.fail
  | some a => exact h a rfl
theorem Sim.ite {R : Mu → α → β → Prop} {c : Prop} [Decidable c] {x : M α} {s : Sem β} (h : c → Sim P W0 G μ w H R x s) : Sim P W0 G μ w H R (if c then x else Ab.fail) s := by
  by_cases hc : c
  · rw [if_pos hc]; exact h hc
  · rw [if_neg hc]; exact Sim.fail
theorem Sim.run {R : Mu → α → β → Prop} {m : M α} {s s' : Sem β} (hs : s.run P w = s'.run P w) (h : Sim P W0 G μ w H R m s') : Sim P W0 G μ w H R m s := by
  intro a H' e
  obtain ⟨b, w', μ', h1, h2⟩ := h a H' e
  exact ⟨b, w', μ', hs.trans h1, h2⟩
theorem Sim.mono {R R' : Mu → α → β → Prop} {m : M α} {s : Sem β} (h : Sim P W0 G μ w H R m s) (hr : ∀ μ a b, R μ a b → R' μ a b) : Sim P W0 G μ w H R' m s := by
  intro a H' e
  obtain ⟨b, w', μ', h1, h2, h3, h4⟩ := h a H' e
  exact ⟨b, w', μ', h1, h2, h3, hr _ _ _ h4⟩
theorem Sim.bind {R : Mu → α → β → Prop} {R2 : Mu → γ → δ → Prop} {m : M α} {f : α → M γ} {s : Sem β} {g : β → Sem δ} (h : Sim P W0 G μ w H R m s)
    (k : ∀ a b μ' w' H', Lx H.nx μ H'.nx μ' → RelG W0 μ' w' H' G → R μ' a b → Sim P W0 G μ' w' H' R2 (f a) (g b)) : Sim P W0 G μ w H R2 (bnd m f) (s >>= g) := by
  intro c H2 e
  simp only [bnd] at e
  split at e
  · rename_i a H1 hm
    obtain ⟨b, w1, μ1, h1, h2, h3, h4⟩ := h a H1 hm
    obtain ⟨d, w2, μ2, k1, k2, k3, k4⟩ := k a b μ1 w1 H1 h2 h3 h4 c H2 e
    exact ⟨d, w2, μ2, by simp only [Sem.run_bind, h1, Result.andThen_ok, k1], h2.trans k2, k3, k4⟩
  · cases e
/-- The model's part goes on, the abstract one has already all. -/
theorem Sim.then_ {R : Mu → α → β → Prop} {R2 : Mu → α → δ → Prop} {m : M α} {s : Sem β} {g : β → Sem δ} (h : Sim P W0 G μ w H R m s)
    (k : ∀ a b μ' w' H', RelG W0 μ' w' H' G → R μ' a b → ∃ d, (g b).run P w' = .ok d w' ∧ R2 μ' a d) : Sim P W0 G μ w H R2 m (s >>= g) := by
  intro a H1 e
  obtain ⟨b, w1, μ1, h1, h2, h3, h4⟩ := h a H1 e
  obtain ⟨d, k1, k2⟩ := k a b μ1 w1 H1 h3 h4
  exact ⟨d, w1, μ1, by simp only [Sem.run_bind, h1, Result.andThen_ok, k1], h2, h3, k2⟩
end

-- what the model's small words come to
section
variable {P : Program} {w : World}
theorem run_underlying {t : TypeId} {d : TypeDesc} (h : P.underlying t = some d) : (underlying t).run P w = .ok d w := by
  simp [underlying, h]
theorem run_typeInfo {t : TypeId} {i : TypeInfo} (h : P.info? t = some i) : (typeInfo t).run P w = .ok i w := by
  simp [typeInfo, h]
theorem run_sizeOf {t : TypeId} {n : Nat} (h : szOf P t = some n) : (sizeOf t).run P w = .ok n w := by
  unfold szOf at h
  cases hi : P.info? t with
  | none => simp [hi] at h
  | some i => simp [hi] at h; simp [sizeOf, run_typeInfo hi, h]
theorem run_isAgg {t : TypeId} {b : Bool} (h : aggT P t = some b) : (isAgg t).run P w = .ok b w := by
  unfold aggT at h
  cases hu : P.underlying t with
  | none => simp [hu] at h
  | some d =>
    simp only [hu] at h
    simp only [isAgg, Sem.run_bind, run_underlying hu, Result.andThen_ok]
    cases d <;> simp_all
theorem run_zeroValue {t : TypeId} {v : Value} (h : (P.info? t).bind (·.zero) = some v) : (zeroValue t).run P w = .ok v w := by
  cases hi : P.info? t with
  | none => simp [hi] at h
  | some i => simp [hi] at h; simp [zeroValue, run_typeInfo hi, h]
end

theorem ofCell_VR {μ : Mu} {v : Value} {x : AV} (h : ofCell v = some x) : VR μ x v ∧ x.isCell = true := by
  unfold ofCell at h
  split at h <;> first | (cases h; done) | (cases h; first | exact ⟨.bool _, rfl⟩ | exact ⟨.int _ _, rfl⟩ | exact ⟨.str _, rfl⟩ | exact ⟨.ptr0, rfl⟩ | exact ⟨.sl0, rfl⟩ | exact ⟨.nilfn, rfl⟩ | exact ⟨.nilifc, rfl⟩)
theorem ofCells_VR {μ : Mu} : ∀ {vs : List Value} {xs : List AV}, ofCells vs = some xs → VRL μ xs vs ∧ xs.all AV.isCell = true
  | [], xs, h => by simp [ofCells] at h; subst h; exact ⟨.nil, rfl⟩
  | v :: vs, xs, h => by
    simp only [ofCells] at h
    split at h
    · rename_i x ys h1 h2
      cases h
      obtain ⟨a, b⟩ := ofCell_VR (μ := μ) h1
      obtain ⟨c, d⟩ := ofCells_VR (μ := μ) h2
      exact ⟨.cons a c, by simp [b, d]⟩
    · cases h
theorem ofVal_VR {μ : Mu} {v : Value} {x : AV} (h : ofVal v = some x) : VR μ x v := by
  unfold ofVal at h
  split at h
  · rename_i cs
    cases hc : ofCells cs.toList with
    | none => simp [hc] at h
    | some xs =>
      simp [hc] at h; subst h
      obtain ⟨a, b⟩ := ofCells_VR (μ := μ) hc
      exact .agg a b
  · rename_i vs
    split at h
    · rename_i he
      cases h
      have : vs = #[] := Array.eq_empty_of_size_eq_zero he
      subst this
      exact .tup .nil
    · cases h
  · exact (ofCell_VR h).1
theorem ofVal_cells {v : Value} {x : AV} (h : ofVal v = some x) (hx : x ≠ .tup []) : x.cells.all AV.isCell = true := by
  unfold ofVal at h
  split at h
  · rename_i cs
    cases hc : ofCells cs.toList with
    | none => simp [hc] at h
    | some xs =>
      simp [hc] at h; subst h
      exact (ofCells_VR (μ := fun _ => none) hc).2
  · split at h
    · cases h; exact absurd rfl hx
    · cases h
  · have := (ofCell_VR (μ := fun _ => none) h).2
    cases x <;> simp_all [AV.cells, AV.isCell]

-- reading
section
variable {P : Program} {W0 : World} {G : Nat → Option Blk} {μ : Mu} {w : World} {H : AH}
theorem rowOf (hr : RelG W0 μ w H G) {b : Nat} {l : Loc} (hl : μ b = some l) {cs : List AV} {es : Nat} {g own : Bool} (hb : H.bk b = some (.cells cs es g own)) :
    Row W0 μ w cs es own l := by
  obtain ⟨l', hl', h⟩ := hr.rel.row b cs es g own (plus_some hb)
  rw [hl] at hl'; cases hl'; exact h
theorem rd1_cell (hr : RelG W0 μ w H G) {b o : Nat} {l : Loc} (hl : μ b = some l) {x : AV} (h : H.rd1 (b, o) = some x) :
    ∃ v, w.cell? ⟨l.blk, l.sh + o, none⟩ = some v ∧ VR μ x v ∧ x.isCell = true := by
  unfold AH.rd1 at h
  split at h
  · rename_i cs es g own hb
    obtain ⟨C, el, fz, h1, h2, h3, h4⟩ := (rowOf hr hl hb).at_
    obtain ⟨c, v, h5, h6⟩ := h3 _ _ h
    exact ⟨v, by rw [cell_of h1]; exact h5, h6, c⟩
  · cases h
theorem rd_cells (hr : RelG W0 μ w H G) {b o n : Nat} {l : Loc} (hl : μ b = some l) {xs : List AV} (h : H.rd (b, o) n = some xs) :
    ∃ vs, vs.length = n ∧ VRL μ xs vs ∧ xs.all AV.isCell = true ∧ ∀ (j : Nat) (v : Value), vs[j]? = some v → w.cell? ⟨l.blk, l.sh + o + j, none⟩ = some v := by
  unfold AH.rd at h
  split at h
  · rename_i cs es g own hb
    split at h
    · rename_i hle
      cases h
      obtain ⟨C, el, fz, h1, h2, h3, h4⟩ := (rowOf hr hl hb).at_
      have hsz := (rowOf hr hl hb).len
      have hft := (rowOf hr hl hb).fits
      simp only at hle
      refine ⟨(C.toList.drop (l.sh + o)).take n, by simp [h2]; omega, VRL.of_get (by simp [h2]; omega) fun i x e => ?_, ?_, fun j v e => ?_⟩
      · rw [List.getElem?_take] at e
        split at e
        · rename_i hi
          rw [List.getElem?_drop] at e
          obtain ⟨c, v, h5, h6⟩ := h3 _ _ e
          refine ⟨v, ?_, h6⟩
          rw [List.getElem?_take, if_pos hi, List.getElem?_drop]
          simpa [Nat.add_assoc] using h5
        · cases e
      · rw [List.all_eq_true]
        intro x hx
        obtain ⟨i, e⟩ := List.getElem?_of_mem (List.mem_of_mem_drop (List.mem_of_mem_take hx))
        exact (h3 _ _ e).1
      · rw [List.getElem?_take] at e
        split at e
        · rw [List.getElem?_drop] at e
          rw [cell_of h1]
          simpa using e
        · cases e
    · cases h
  · cases h

theorem Sim.ld {a : AV} {v : Value} (hr : RelG W0 μ w H G) (hv : VR μ a v) {t : TypeId} (ht : aggT P t = some false) :
    Sim P W0 G μ w H VR (ld a) (Instr.loadAt t v) := by
  cases hv with
  | @ptr b o l hl =>
    intro x H' e
    simp only [Ab.ld, ld1] at e
    cases hx : H.rd1 (b, o) with
    | none => simp [hx] at e
    | some y =>
      simp only [hx, Option.map_some, Option.some.injEq, Prod.mk.injEq] at e
      obtain ⟨rfl, rfl⟩ := e
      obtain ⟨u, h1, h2, _⟩ := rd1_cell hr hl hx
      refine ⟨u, w, μ, ?_, Lx.refl _ _, hr, h2⟩
      simp [Instr.loadAt, Instr.sureAddr, loadVar, run_isAgg ht, h1]
  | _ => exact Sim.fail
theorem Sim.lda {a : AV} {v : Value} (hr : RelG W0 μ w H G) (hv : VR μ a v) {t : TypeId} {n : Nat} (ht : aggT P t = some true) (hn : szOf P t = some n) :
    Sim P W0 G μ w H VR (lda n a) (Instr.loadAt t v) := by
  cases hv with
  | @ptr b o l hl =>
    intro x H' e
    simp only [Ab.lda, bnd, ldn] at e
    cases hx : H.rd (b, o) n with
    | none => simp [hx] at e
    | some y =>
      simp only [hx, Option.map_some, Ab.ret, Option.some.injEq, Prod.mk.injEq] at e
      obtain ⟨rfl, rfl⟩ := e
      obtain ⟨vs, h1, h2, h3, h4⟩ := rd_cells hr hl hx
      refine ⟨.agg vs.toArray, w, μ, ?_, Lx.refl _ _, hr, .agg h2 h3⟩
      simp [Instr.loadAt, Instr.sureAddr, loadVar, run_isAgg ht, run_sizeOf hn, run_loadCells P w _ _ n vs h1 h4]
  | _ => exact Sim.fail

-- writing
theorem RelG.write (hr : RelG W0 μ w H G) {b : Nat} {cs cs' : List AV} {es : Nat} {g : Bool} {l : Loc}
    (hb : H.bk b = some (.cells cs es g true)) (hl : μ b = some l) {w' : World} {C C' : Array Value} {el : TypeId} {fz : Nat × Nat}
    (hC : w.heap[l.blk]? = some (.cells C el fz)) (hw : Only w w' l.blk (.cells C' el fz)) (hs : C'.size = C.size)
    (hout : ∀ j, (j < l.sh ∨ l.sh + l.ext ≤ j) → C'[j]? = C[j]?)
    (hlen : cs'.length = cs.length) (hv : ∀ (i : Nat) (x : AV), cs'[i]? = some x → x.isCell = true ∧ ∃ v, C'[l.sh + i]? = some v ∧ VR μ x v) :
    RelG W0 μ w' (H.set b (some (.cells cs' es g true))) G := by
  have h := hr.rel.write (plus_some hb) hl hC hw hs hout hlen hv
  refine ⟨?_, fun c hc => ?_⟩
  · refine h.drop (fun c x hx => ?_) (Nat.le_refl _)
    simp only [AH.plus, AH.set] at hx ⊢
    by_cases e : c = b
    · simpa [e] using hx
    · simpa [e] using hx
  · simp only [AH.set] at hc
    split at hc
    · rename_i e; subst e; exact hr.dis _ (by simp [hb])
    · exact hr.dis _ hc

theorem splice_length {cs vs : List AV} {o : Nat} (h : o + vs.length ≤ cs.length) : (splice cs o vs).length = cs.length := by
  simp [splice]; omega
theorem splice_get {cs vs : List AV} {o : Nat} (h : o + vs.length ≤ cs.length) (i : Nat) :
    (splice cs o vs)[i]? = if o ≤ i ∧ i < o + vs.length then vs[i - o]? else cs[i]? := by
  simp only [splice]
  by_cases h1 : i < o
  · rw [if_neg (by omega), List.append_assoc, List.getElem?_append_left (by simp; omega), List.getElem?_take, if_pos h1]
  · rw [List.append_assoc, List.getElem?_append_right (by simp; omega)]
    have e : (cs.take o).length = o := by simp; omega
    rw [e]
    by_cases h2 : i < o + vs.length
    · rw [if_pos (by omega), List.getElem?_append_left (by omega)]
    · rw [if_neg (by omega), List.getElem?_append_right (by omega), List.getElem?_drop]
      congr 1; omega

theorem Sim.stn {b o : Nat} {l : Loc} (hr : RelG W0 μ w H G) (hl : μ b = some l) {xs : List AV} {vs : List Value} (hv : VRL μ xs vs) :
    Sim P W0 G μ w H (fun _ _ _ => True) (stn (b, o) xs) (storeCells ⟨l.blk, l.sh + o, none⟩ vs) := by
  intro u H' e
  simp only [Ab.stn] at e
  split at e
  · rename_i cs es g hb
    split at e
    · rename_i hc
      obtain ⟨hlen, hall⟩ := hc
      simp only [Option.some.injEq, Prod.mk.injEq] at e
      obtain ⟨_, rfl⟩ := e
      have hrow := rowOf hr hl hb
      obtain ⟨C, el, fz, h1, h2, h3, h4⟩ := hrow.at_
      have hsz := hrow.len
      have hft := hrow.fits
      have hvl := hv.length
      obtain ⟨w', C', r, ho, hs, hw⟩ := run_storeCells (P := P) (k := l.blk) (o := l.sh + o) (el := el) (fz := fz) vs 0 w C h1 (by omega)
        (fun j a b => h4 rfl j (by omega)) (fun v hm => by
          obtain ⟨i, hi⟩ := List.getElem?_of_mem hm
          have hil : i < xs.length := by
            have := hvl
            rcases Nat.lt_or_ge i vs.length with h' | h'
            · omega
            · simp [List.getElem?_eq_none h'] at hi
          obtain ⟨v', hv', r⟩ := hv.get (x := xs[i]) (i := i) (by simp [hil])
          rw [hi] at hv'; cases hv'
          have := r.oneCell (by rw [List.all_eq_true] at hall; exact hall _ (List.getElem_mem hil))
          exact ⟨this.2.1, this.2.2⟩)
      refine ⟨(), w', μ, r, Lx.refl _ _, ?_, trivial⟩
      refine hr.write hb hl h1 ho hs (fun j hj => ?_) (splice_length hlen) (fun i x hx => ?_)
      · rw [hw j, if_neg (by omega)]
      · rw [splice_get hlen] at hx
        split at hx
        · rename_i hi
          obtain ⟨v, k1, k2⟩ := hv.get hx
          refine ⟨by rw [List.all_eq_true] at hall; exact hall _ (List.mem_of_getElem? hx), v, ?_, k2⟩
          rw [hw, if_pos (by omega), ← k1]
          congr 1; omega
        · rename_i hi
          obtain ⟨c, v, k1, k2⟩ := h3 _ _ hx
          exact ⟨c, v, by rw [hw, if_neg (by omega)]; exact k1, k2⟩
    · cases e
  · cases e

theorem st1_eq (b o : Nat) (x : AV) (H : AH) : st1 (b, o) x H = stn (b, o) [x] H := by
  simp only [Ab.st1, Ab.stn]
  split
  · rename_i cs es g hb
    simp only [List.length_singleton, List.all_cons, List.all_nil, Bool.and_true]
    by_cases h : o < cs.length ∧ x.isCell = true
    · rw [if_pos h, if_pos ⟨by omega, h.2⟩]
      congr 5
      apply List.ext_getElem?
      intro i
      rw [splice_get (by simp; omega)]
      rw [List.getElem?_set]
      by_cases e : o = i
      · subst e; simp [h.1]
      · rw [if_neg e, if_neg (by simp; omega)]
    · rw [if_neg h, if_neg (by intro k; exact h ⟨by omega, k.2⟩)]
  · rfl

theorem Sim.st {a x : AV} {v u : Value} (hr : RelG W0 μ w H G) (ha : VR μ a v) (hx : VR μ x u) {t : TypeId} {n : Nat} (hn : szOf P t = some n) :
    Sim P W0 G μ w H (fun _ y (_ : Unit) => y = undefA) (st n a x) (Instr.storeAt t v u) := by
  have key : ∀ (b o : Nat) (l : Loc), μ b = some l → ∀ (xs : List AV), xs.length = n → VRL μ xs u.cells.toList →
      Sim P W0 G μ w H (fun _ y (_ : Unit) => y = undefA) (bnd (Ab.stn (b, o) xs) fun _ => Ab.ret undefA) (Instr.storeAt t (.pointer (some ⟨l.blk, l.sh + o, none⟩)) u) := by
    intro b o l hl xs hxs hxv
    have hlen : u.cells.size = n := by have := hxv.length; simp at this; omega
    have h := Sim.stn (P := P) (o := o) hr hl hxv
    intro y H' e
    simp only [bnd] at e
    split at e
    · rename_i q H1 hq
      simp only [Ab.ret, Option.some.injEq, Prod.mk.injEq] at e
      obtain ⟨rfl, rfl⟩ := e
      obtain ⟨_, w', μ', h1, h2, h3, _⟩ := h q H1 hq
      refine ⟨(), w', μ', ?_, h2, h3, rfl⟩
      simp [Instr.storeAt, Instr.sureAddr, storeVar, run_sizeOf hn, hlen, h1]
    · cases e
  cases ha with
  | @ptr b o l hl =>
    have hx' := hx
    cases hx with
    | agg h hc =>
      simp only [Ab.st]
      exact Sim.ite fun hl' => key b o l hl _ hl' h
    | tup h =>
      simp only [Ab.st]
      refine Sim.ite fun hn1 => ?_
      intro y H' e
      simp only [bnd, Ab.st1] at e
      split at e
      · rename_i hq
        split at hq
        · simp [AV.isCell] at hq
        · cases hq
      · cases e
    | _ =>
      simp only [Ab.st]
      refine Sim.ite fun hn1 => ?_
      have := key b o l hl [_] (by simp [hn1]) (.cons hx' .nil)
      intro y H' e
      refine this y H' ?_
      simp only [bnd, ← st1_eq]
      exact e
  | _ => exact Sim.fail

-- making
theorem RelG.new (hr : RelG W0 μ w H G) {w' : World} {C : Array Value} {el : TypeId} {fz : Nat × Nat} (hw : New w w' (.cells C el fz))
    {cs : List AV} {es : Nat} {g : Bool} {μ' : Mu} (hμ : μ' = muSet μ H.nx { blk := w.heap.size, sh := 0, ext := cs.length, top := C.size, es })
    (hc : cs.length ≤ C.size) (hfz : ∀ (i : Nat), i < C.size → ¬ (fz.1 ≤ i ∧ i < fz.2))
    (hv : ∀ (i : Nat) (x : AV), cs[i]? = some x → x.isCell = true ∧ ∃ v, C[i]? = some v ∧ VR μ' x v) :
    RelG W0 μ' w' { nx := H.nx + 1, bk := fun i => if i = H.nx then some (.cells cs es g true) else H.bk i } G ∧ Lx H.nx μ (H.nx + 1) μ' := by
  obtain ⟨h1, h2⟩ := hr.rel.new hw (g := g) hμ hc hfz hv
  refine ⟨⟨h1.drop (fun c x hx => ?_) (Nat.le_refl _), fun c hc => ?_⟩, h2, fun b hb => ?_, by omega⟩
  · simp only [AH.plus] at hx ⊢
    by_cases e : c = H.nx
    · simpa [e] using hx
    · simpa [e] using hx
  · dsimp only at hc
    split at hc
    · rename_i e; subst e; exact hr.gnone (Nat.le_refl _)
    · exact hr.dis _ hc
  · simp only [hμ, muSet]; rw [if_neg (by omega)]

theorem new_push (w : World) (o : Obj) : New w { w with heap := w.heap.push o } o where
  os := rfl
  tape := rfl
  output := rfl
  size := by simp
  other j hj := by simp [Array.getElem?_push]; omega
  here := by simp

/-- What is known of a block that was just made. -/
def MadeAt (cs : List AV) (es n : Nat) (μ : Mu) (b : Nat) (a : Addr) : Prop :=
  ∃ l, μ b = some l ∧ a = ⟨l.blk, l.sh, none⟩ ∧ l.sh = 0 ∧ l.ext = cs.length ∧ l.es = es ∧ l.top = n

theorem Sim.alc (hr : RelG W0 μ w H G) {cs : List AV} {es : Nat} {g : Bool} {el : TypeId} {vs rest : List Value} (hv : VRL μ cs vs) (hall : cs.all AV.isCell = true) :
    Sim P W0 G μ w H (MadeAt cs es (vs.length + rest.length)) (alc cs es g) (newRow el (vs ++ rest).toArray) := by
  intro b H' e
  simp only [Ab.alc, Option.some.injEq, Prod.mk.injEq] at e
  obtain ⟨rfl, rfl⟩ := e
  have hlen := hv.length
  have hfr : μ H.nx = none := hr.rel.fresh _ (Nat.le_refl _)
  obtain ⟨h1, h2⟩ := hr.new (es := es) (g := g) (new_push w (.cells (vs ++ rest).toArray el)) (μ' := muSet μ H.nx { blk := w.heap.size, sh := 0, ext := cs.length, top := (vs ++ rest).toArray.size, es }) rfl
    (by simp; omega) (by simp) (fun i x hx => by
      obtain ⟨v, k1, k2⟩ := hv.get hx
      refine ⟨by rw [List.all_eq_true] at hall; exact hall _ (List.mem_of_getElem? hx), v, ?_, k2.mono (muSet_le hfr)⟩
      have : i < vs.length := by
        rcases Nat.lt_or_ge i vs.length with h' | h'
        · exact h'
        · simp [List.getElem?_eq_none h'] at k1
      simp [List.getElem?_append_left this, k1])
  refine ⟨⟨w.heap.size, 0, none⟩, _, _, ?_, h2, h1, { blk := w.heap.size, sh := 0, ext := cs.length, top := (vs ++ rest).toArray.size, es }, by simp [muSet], rfl, rfl, rfl, rfl, by simp⟩
  simp [newRow]

theorem Sim.kil (hr : RelG W0 μ w H G) {b : Nat} {x : Blk} (hb : H.bk b = some x) : RelG W0 μ w (H.set b none) G := by
  refine ⟨hr.rel.drop (fun c y hy => ?_) (Nat.le_refl _), fun c hc => ?_⟩
  · simp only [AH.plus, AH.set] at hy ⊢
    by_cases e : c = b
    · subst e; simp [hr.dis c (by simp [hb])] at hy
    · simpa [e] using hy
  · simp only [AH.set] at hc
    split at hc
    · cases hc
    · exact hr.dis _ hc
end
end Go.Ab
