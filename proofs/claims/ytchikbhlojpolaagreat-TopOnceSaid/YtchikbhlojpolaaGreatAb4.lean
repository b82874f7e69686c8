/- The abstract machine: memory's own steps, in both. -/
import Derived.Test.YtchikbhlojpolaaGreatAb3
namespace Go.Ab
open Go Go.RowKit

theorem add_none (b o i : Nat) : (Addr.add ⟨b, o, none⟩ i) = ⟨b, o + i, none⟩ := by
  unfold Addr.add; split
  · rename_i h; subst h; rfl
  · rfl

theorem cell_of {w : World} {k : Nat} {C : Array Value} {el : TypeId} {fz : Nat × Nat} (h : w.heap[k]? = some (.cells C el fz)) (o : Nat) :
    w.cell? ⟨k, o, none⟩ = C[o]? := by simp [World.cell?, h]
theorem frozen_of {w : World} {k : Nat} {C : Array Value} {el : TypeId} {fz : Nat × Nat} (h : w.heap[k]? = some (.cells C el fz)) {o : Nat} (ho : ¬ (fz.1 ≤ o ∧ o < fz.2)) :
    w.frozen? ⟨k, o, none⟩ = false := by
  obtain ⟨lo, hi⟩ := fz
  simp only [World.frozen?, h]
  simp only at ho
  rcases Nat.lt_or_ge o lo with h' | h'
  · simp; omega
  · simp; intro; omega

theorem run_loadFrom (P : Program) (w : World) (b o : Nat) : ∀ (n i : Nat) (acc : Array Value) (vs : List Value), vs.length = n →
    (∀ j v, vs[j]? = some v → w.cell? ⟨b, o + (i + j), none⟩ = some v) → (loadCellsFrom ⟨b, o, none⟩ i n acc).run P w = .ok (acc ++ vs.toArray) w
  | 0, i, acc, vs, hn, _ => by
    have : vs = [] := List.length_eq_zero_iff.1 hn
    subst this; simp [loadCellsFrom]
  | n + 1, i, acc, [], hn, _ => by simp at hn
  | n + 1, i, acc, v :: vs, hn, h => by
    have h0 := h 0 v rfl
    simp only [Nat.add_zero] at h0
    simp only [loadCellsFrom, Sem.run_bind, run_load, add_none, h0, Result.andThen_ok]
    rw [run_loadFrom P w b o n (i + 1) (acc.push v) vs (by simpa using hn) (fun j u e => by
      have := h (j + 1) u (by simpa using e)
      rw [show i + 1 + j = i + (j + 1) by omega]; exact this)]
    simp
theorem run_loadCells (P : Program) (w : World) (b o n : Nat) (vs : List Value) (hn : vs.length = n)
    (h : ∀ j v, vs[j]? = some v → w.cell? ⟨b, o + j, none⟩ = some v) : (loadCells ⟨b, o, none⟩ n).run P w = .ok vs.toArray w := by
  unfold loadCells
  rw [run_loadFrom P w b o n 0 #[] vs hn (fun j v e => by simpa using h j v e)]
  simp

theorem run_store1 {P : Program} {w : World} {k o : Nat} {C : Array Value} {el : TypeId} {fz : Nat × Nat} {v : Value} (h : w.heap[k]? = some (.cells C el fz))
    (ho : o < C.size) (hf : ¬ (fz.1 ≤ o ∧ o < fz.2)) (ha : ∀ cs, v ≠ .agg cs) (ht : ∀ vs, v ≠ .tuple vs) :
    (store ⟨k, o, none⟩ v).run P w = .ok () (w.setCell ⟨k, o, none⟩ v) := by
  have hc : w.cell? ⟨k, o, none⟩ = some C[o] := by rw [cell_of h]; simp [ho]
  have hfz := frozen_of h hf
  unfold store
  cases v <;> first | (exact absurd rfl (ha _)) | (exact absurd rfl (ht _)) | simp [Sem.run, hc, hfz]

theorem setCell_only {w : World} {k o : Nat} {C : Array Value} {el : TypeId} {fz : Nat × Nat} {v : Value} (h : w.heap[k]? = some (.cells C el fz)) :
    Only w (w.setCell ⟨k, o, none⟩ v) k (.cells (C.setIfInBounds o v) el fz) where
  os := rfl
  tape := rfl
  output := rfl
  size := by simp [World.setCell]
  other j hj := Below.heap_setCell _ _ _ _ hj
  here := by
    simp only [World.setCell, Array.getElem?_modify, if_true, h]
    simp

theorem Only.trans {w w1 w2 : World} {k : Nat} {o o' : Obj} (h : Only w w1 k o) (h' : Only w1 w2 k o') : Only w w2 k o' where
  os := h'.os.trans h.os
  tape := h'.tape.trans h.tape
  output := h'.output.trans h.output
  size := h'.size.trans h.size
  other j hj := (h'.other j hj).trans (h.other j hj)
  here := h'.here

/-- The cells of a block behind the writing of some. -/
def wrote (C : Array Value) (o : Nat) (vs : List Value) (C' : Array Value) : Prop :=
  C'.size = C.size ∧ ∀ j, C'[j]? = if o ≤ j ∧ j < o + vs.length then vs[j - o]? else C[j]?

theorem run_storeCells {P : Program} {k o : Nat} {el : TypeId} {fz : Nat × Nat} : ∀ (vs : List Value) (i : Nat) (w : World) (C : Array Value),
    w.heap[k]? = some (.cells C el fz) → o + i + vs.length ≤ C.size → (∀ j, o + i ≤ j → j < o + i + vs.length → ¬ (fz.1 ≤ j ∧ j < fz.2)) →
    (∀ v ∈ vs, (∀ cs, v ≠ .agg cs) ∧ (∀ us, v ≠ .tuple us)) →
    ∃ w' C', (storeCells ⟨k, o, none⟩ vs i).run P w = .ok () w' ∧ Only w w' k (.cells C' el fz) ∧ wrote C (o + i) vs C'
  | [], i, w, C, h, _, _, _ => ⟨w, C, by simp [storeCells], ⟨rfl, rfl, rfl, rfl, fun _ _ => rfl, h⟩, rfl, fun j => by rw [if_neg (by simp)]⟩
  | v :: vs, i, w, C, h, hlen, hf, hv => by
    simp only [List.length_cons] at hlen hf
    obtain ⟨hva, hvt⟩ := hv v (by simp)
    have h1 := run_store1 (P := P) (o := o + i) h (by omega) (hf _ (by omega) (by omega)) hva hvt
    have ho := setCell_only (o := o + i) (v := v) h
    obtain ⟨w', C', r, ho', hs, hw⟩ := run_storeCells (P := P) (k := k) (o := o) (el := el) (fz := fz) vs (i + 1) _ _ ho.here (by simp; omega)
      (fun j a b => hf j (by omega) (by omega)) (fun u hu => hv u (by simp [hu]))
    refine ⟨w', C', ?_, ho.trans ho', by simpa using hs, fun j => ?_⟩
    · simp only [storeCells, Sem.run_bind, add_none, h1, Result.andThen_ok]
      exact r
    · rw [hw j]
      simp only [List.length_cons]
      by_cases e : j = o + i
      · subst e
        rw [if_neg (by omega), if_pos (by omega)]
        simp
        rw [Array.getElem?_setIfInBounds]
        simp; omega
      · by_cases c : o + (i + 1) ≤ j ∧ j < o + (i + 1) + vs.length
        · rw [if_pos c, if_pos (by omega)]
          rw [show j - (o + i) = (j - (o + (i + 1))) + 1 by omega]
          simp
        · rw [if_neg c, if_neg (by omega)]
          rw [Array.getElem?_setIfInBounds, if_neg (by omega)]

/-- A block that may grow has grown in its own room: the old one is forgotten. -/
theorem Rel.grow {W0 : World} {μ : Mu} {w w' : World} {H : AH} (h : Rel W0 μ w H) {b o : Nat} {cs cs' : List AV} {es : Nat} {l : Loc}
    (hb : H.bk b = some (.cells cs es true true)) (hl : μ b = some l) {C C' : Array Value} {el : TypeId} {fz : Nat × Nat}
    (hC : w.heap[l.blk]? = some (.cells C el fz)) (hw : Only w w' l.blk (.cells C' el fz)) (hs : C'.size = C.size)
    (hout : ∀ j, j < l.sh → C'[j]? = C[j]?) {μ' : Mu}
    (hμ : μ' = muSet μ H.nx { blk := l.blk, sh := l.sh + o, ext := cs'.length, top := l.top, es })
    (hfit : l.sh + o + cs'.length ≤ l.top)
    (hv : ∀ (i : Nat) (x : AV), cs'[i]? = some x → x.isCell = true ∧ ∃ v, C'[l.sh + o + i]? = some v ∧ VR μ' x v) :
    Rel W0 μ' w' { nx := H.nx + 1, bk := fun i => if i = H.nx then some (.cells cs' es true true) else if i = b then none else H.bk i } ∧ Le μ μ' := by
  obtain ⟨l', hl', hr⟩ := h.row _ _ _ _ _ hb
  rw [hl] at hl'; cases hl'
  obtain ⟨D, el', fz', h1, h2, h3, h4⟩ := hr.at_
  rw [hC] at h1; cases h1
  have hold : W0.heap.size ≤ l.blk := by simpa using hr.old
  have hfr : μ H.nx = none := h.fresh _ (Nat.le_refl _)
  have hle : Le μ μ' := hμ ▸ muSet_le hfr
  have hat : μ' H.nx = some { blk := l.blk, sh := l.sh + o, ext := cs'.length, top := l.top, es } := by simp [hμ, muSet]
  have hbn : ∀ b x, H.bk b = some x → b ≠ H.nx := by
    intro b x hx e
    subst e
    cases x with
    | cells cs es g own => obtain ⟨l, hl, _⟩ := h.row _ _ _ _ _ hx; simp [hfr] at hl
    | iter s p => obtain ⟨l, hl, _⟩ := h.iter _ _ _ hx; simp [hfr] at hl
  have hne : ∀ b l, μ' b = some l → b ≠ H.nx → μ b = some l := fun b l hl hb => by simpa [hμ, muSet, hb] using hl
  refine ⟨⟨?_, ?_, ?_, ?_, ?_⟩, hle⟩
  · exact h.below.trans ⟨hw.os, hw.tape, hw.output, by rw [hw.size]; exact Nat.le_refl _, fun k hk => hw.other k (by omega)⟩
  · intro b' cs2 es2 g2 own2 hb2
    dsimp only at hb2
    split at hb2
    · rename_i e
      subst e
      cases hb2
      exact ⟨_, hat, ⟨⟨C', el, fz, hw.here, by rw [hs]; exact h2, hv, h4⟩, rfl, rfl, hfit, hr.old⟩⟩
    · split at hb2
      · cases hb2
      · rename_i e1 e
        obtain ⟨m, hm, hrm⟩ := h.row _ _ _ _ _ hb2
        refine ⟨m, hle _ _ hm, ?_⟩
        by_cases hblk : m.blk = l.blk
        · have hown2 : own2 = true := by
            cases own2 with
            | true => rfl
            | false => have := hrm.old; simp at this; omega
          have hap := h.apart b' b _ _ m l e hb2 hb (by simpa [Blk.own] using hown2) rfl hm hl
          rcases hap with hap | ⟨_, _, hap⟩
          · exact absurd hblk hap
          · obtain ⟨E, el3, fz3, k1, k2, k3, k4⟩ := hrm.at_
            rw [hblk, hC] at k1; cases k1
            have hsp1 : m.sh + m.ext ≤ hiOf (.cells cs2 es2 g2 own2) m := by
              simp only [hiOf]; split
              · exact hrm.fits
              · exact Nat.le_refl _
            simp only [hiOf, if_true] at hap
            refine ⟨⟨C', el, fz, by rw [hblk]; exact hw.here, by rw [hs]; exact k2, fun i x hx => ?_, k4⟩, hrm.len, hrm.es_, hrm.fits, hrm.old⟩
            obtain ⟨c1, v, c2, c3⟩ := k3 i x hx
            have hi : i < cs2.length := by
              rcases Nat.lt_or_ge i cs2.length with h' | h'
              · exact h'
              · simp [List.getElem?_eq_none h'] at hx
            have := hrm.len
            have hfits := hrm.fits
            have hsz : m.top = l.top := by rw [← k2, h2]
            refine ⟨c1, v, ?_, c3.mono hle⟩
            rw [hout _ (by simp only [hiOf] at hsp1; omega)]
            exact c2
        · exact hrm.same hle (hw.other _ hblk)
  · intro b' s pos hb2
    dsimp only at hb2
    split at hb2
    · cases hb2
    · split at hb2
      · cases hb2
      · obtain ⟨m, hm, k1, k2, k3⟩ := h.iter _ _ _ hb2
        refine ⟨m, hle _ _ hm, ?_, k2, k3⟩
        rw [hw.other _ (fun e => by rw [e, hC] at k1; cases k1)]
        exact k1
  · intro b1 b2 x y l1 l2 hne12 hx hy hox hoy hl1 hl2
    dsimp only at hx hy
    have key : ∀ (b3 : Nat) (z : Blk) (m : Loc), b3 ≠ b → H.bk b3 = some z → z.own = true → μ b3 = some m →
        Apart (.cells cs' es true true) z { blk := l.blk, sh := l.sh + o, ext := cs'.length, top := l.top, es } m ∧
        Apart z (.cells cs' es true true) m { blk := l.blk, sh := l.sh + o, ext := cs'.length, top := l.top, es } := by
      intro b3 z m h3 hz hoz hm
      have hap := h.apart b3 b _ _ m l h3 hz hb hoz rfl hm hl
      rcases hap with hap | ⟨a1, _, hap⟩
      · exact ⟨.inl (fun e => hap e.symm), .inl hap⟩
      · have e1 : hiOf (Blk.cells cs es true true) l = l.top := rfl
        rw [e1] at hap
        have : hiOf z m ≤ l.sh + o ∨ l.top ≤ m.sh := by rcases hap with g | g <;> omega
        exact ⟨.inr ⟨trivial, a1, by rcases this with g | g; exact .inr g; exact .inl g⟩, .inr ⟨a1, trivial, this⟩⟩
    split at hx
    · rename_i e
      subst e
      cases hx
      split at hy
      · rename_i e2; exact absurd e2.symm hne12
      · split at hy
        · cases hy
        · rename_i e2 e3
          rw [hat] at hl1; cases hl1
          exact (key _ _ _ e3 hy hoy (hne _ _ hl2 e2)).1
    · split at hx
      · cases hx
      · rename_i e1 e1b
        split at hy
        · rename_i e
          subst e
          cases hy
          rw [hat] at hl2; cases hl2
          exact (key _ _ _ e1b hx hox (hne _ _ hl1 e1)).2
        · split at hy
          · cases hy
          · rename_i e2 e2b
            exact h.apart _ _ _ _ _ _ hne12 hx hy hox hoy (hne _ _ hl1 e1) (hne _ _ hl2 e2)
  · intro b' hb'
    dsimp only at hb'
    simp only [hμ, muSet]
    rw [if_neg (by omega)]
    exact h.fresh b' (by omega)

theorem Rel.newIter {W0 : World} {μ : Mu} {w w' : World} {H : AH} (h : Rel W0 μ w H) {s : ByteArray} (hw : New w w' (.stringIter s 0)) {μ' : Mu}
    (hμ : μ' = muSet μ H.nx { blk := w.heap.size, sh := 0, ext := 0, top := 0, es := 0 }) :
    Rel W0 μ' w' { nx := H.nx + 1, bk := fun i => if i = H.nx then some (.iter s 0) else H.bk i } ∧ Le μ μ' := by
  have hfr : μ H.nx = none := h.fresh _ (Nat.le_refl _)
  have hle : Le μ μ' := hμ ▸ muSet_le hfr
  have hat : μ' H.nx = some { blk := w.heap.size, sh := 0, ext := 0, top := 0, es := 0 } := by simp [hμ, muSet]
  have hne : ∀ b l, μ' b = some l → b ≠ H.nx → μ b = some l := fun b l hl hb => by simpa [hμ, muSet, hb] using hl
  refine ⟨⟨?_, ?_, ?_, ?_, ?_⟩, hle⟩
  · exact h.below.trans ⟨hw.os, hw.tape, hw.output, by rw [hw.size]; omega, fun k hk => hw.other k (by have := h.below.size; omega)⟩
  · intro b cs es g own hb
    dsimp only at hb
    split at hb
    · cases hb
    · obtain ⟨l, hl, hr⟩ := h.row _ _ _ _ _ hb
      exact ⟨l, hle _ _ hl, hr.same hle (hw.other _ (h.blk_lt hb hl))⟩
  · intro b s' pos hb
    dsimp only at hb
    split at hb
    · rename_i e
      subst e
      cases hb
      exact ⟨_, hat, hw.here, by simpa using h.below.size, rfl⟩
    · obtain ⟨l, hl, hr, h2, h3⟩ := h.iter _ _ _ hb
      exact ⟨l, hle _ _ hl, by rw [hw.other _ (h.blk_lt hb hl)]; exact hr, h2, h3⟩
  · intro b b' x y l m hbb hx hy hox hoy hl hm
    dsimp only at hx hy
    split at hx
    · rename_i e
      subst e
      split at hy
      · rename_i e2; exact absurd e2.symm hbb
      · rename_i e2
        rw [hat] at hl; cases hl
        have := h.blk_lt hy (hne _ _ hm e2)
        exact .inl (by dsimp only; omega)
    · rename_i e
      split at hy
      · rename_i e2
        subst e2
        rw [hat] at hm; cases hm
        have := h.blk_lt hx (hne _ _ hl e)
        exact .inl (by dsimp only; omega)
      · rename_i e2
        exact h.apart _ _ _ _ _ _ hbb hx hy hox hoy (hne _ _ hl e) (hne _ _ hm e2)
  · intro b hb
    dsimp only at hb
    simp only [hμ, muSet]
    rw [if_neg (by omega)]
    exact h.fresh b (by omega)

theorem Rel.stepIter {W0 : World} {μ : Mu} {w w' : World} {H : AH} (h : Rel W0 μ w H) {b : Nat} {s : ByteArray} {pos pos' : Nat} {l : Loc}
    (hb : H.bk b = some (.iter s pos)) (hl : μ b = some l) (hw : Only w w' l.blk (.stringIter s pos')) :
    Rel W0 μ w' (H.set b (some (.iter s pos'))) := by
  obtain ⟨l', hl', h1, h2, h3⟩ := h.iter _ _ _ hb
  rw [hl] at hl'; cases hl'
  refine ⟨?_, ?_, ?_, ?_, h.fresh⟩
  · exact h.below.trans ⟨hw.os, hw.tape, hw.output, by rw [hw.size]; exact Nat.le_refl _, fun k hk => hw.other k (by omega)⟩
  · intro b' cs es g own hb'
    simp only [AH.set] at hb'
    split at hb'
    · cases hb'
    · obtain ⟨m, hm, hr⟩ := h.row _ _ _ _ _ hb'
      refine ⟨m, hm, hr.same (Le.refl _) (hw.other _ fun e => ?_)⟩
      obtain ⟨C, el, fz, k1, _⟩ := hr.at_
      rw [e, h1] at k1; cases k1
  · intro b' s' p' hb'
    simp only [AH.set] at hb'
    split at hb'
    · rename_i e
      subst e
      cases hb'
      exact ⟨l, hl, hw.here, h2, h3⟩
    · rename_i e
      obtain ⟨m, hm, k1, k2, k3⟩ := h.iter _ _ _ hb'
      refine ⟨m, hm, ?_, k2, k3⟩
      rw [hw.other _ fun e2 => ?_]
      · exact k1
      · rcases h.apart _ _ _ _ _ _ e hb' hb rfl rfl hm hl with k | ⟨k, _⟩
        · exact k e2
        · exact k.elim
  · intro b1 b2 x y l1 l2 hne hx hy hox hoy hl1 hl2
    simp only [AH.set] at hx hy
    split at hx
    · rename_i e
      subst e
      cases hx
      split at hy
      · rename_i e2; exact absurd e2.symm hne
      · rcases h.apart _ _ _ _ _ _ hne hb hy rfl hoy hl1 hl2 with k | ⟨k, _⟩
        · exact .inl k
        · exact k.elim
    · split at hy
      · rename_i e
        subst e
        cases hy
        rcases h.apart _ _ _ _ _ _ hne hx hb hox rfl hl1 hl2 with k | ⟨_, k, _⟩
        · exact .inl k
        · exact k.elim
      · exact h.apart b1 b2 _ _ _ _ hne hx hy hox hoy hl1 hl2

end Go.Ab
