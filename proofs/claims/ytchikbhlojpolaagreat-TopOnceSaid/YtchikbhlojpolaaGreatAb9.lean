/- The abstract machine: its steps stand for the model's: literals, makes, append, copy and the like. -/
import Derived.Test.YtchikbhlojpolaaGreatAb8
namespace Go.Ab
open Go Go.RowKit

section
variable {P : Program} {W0 : World} {G : Nat → Option Blk} {μ : Mu} {w : World} {H : AH}

theorem zeroOf_spec {t : TypeId} {z : AV} (h : zeroOf P t = some z) : ∃ v, (∀ w, (zeroValue t).run P w = .ok v w) ∧ VR μ z v ∧ z.cells.all AV.isCell = true ∧ VRL μ z.cells v.cells.toList := by
  unfold zeroOf at h
  split at h
  · rename_i z' hz
    split at h
    · rename_i hall
      cases h
      cases hv : (P.info? t).bind (·.zero) with
      | none => simp [hv] at hz
      | some v =>
        simp [hv] at hz
        have := ofVal_VR (μ := μ) hz
        exact ⟨v, fun w => run_zeroValue hv, this, hall, this.cells hall⟩
    · cases h
  · cases h

theorem foldl_set (off : Nat) : ∀ (l : List Value) (k : Nat) (A : Array Value), off + k + l.length ≤ A.size →
    ((l.zipIdx k).foldl (fun (cs : Array Value) p => cs.setIfInBounds (off + p.2) p.1) A).size = A.size ∧
    ∀ j, ((l.zipIdx k).foldl (fun (cs : Array Value) p => cs.setIfInBounds (off + p.2) p.1) A)[j]? = if off + k ≤ j ∧ j < off + k + l.length then l[j - (off + k)]? else A[j]?
  | [], k, A, _ => by simp; intro j; omega
  | v :: l, k, A, h => by
    simp only [List.zipIdx_cons, List.foldl_cons, List.length_cons] at h ⊢
    obtain ⟨h1, h2⟩ := foldl_set off l (k + 1) (A.setIfInBounds (off + k) v) (by simp; omega)
    refine ⟨by rw [h1]; simp, fun j => ?_⟩
    rw [h2 j]
    by_cases e : j = off + k
    · subst e
      rw [if_neg (by omega), if_pos (by omega), Array.getElem?_setIfInBounds]
      simp; omega
    · by_cases c : off + (k + 1) ≤ j ∧ j < off + (k + 1) + l.length
      · rw [if_pos c, if_pos (by omega), show j - (off + k) = (j - (off + (k + 1))) + 1 by omega]; simp
      · rw [if_neg c, if_neg (by omega), Array.getElem?_setIfInBounds, if_neg (by omega)]

theorem fill_VR {place : Nat → Option (Nat × Nat)} : ∀ (ps : List (Nat × AV)) (qs : List (Nat × Value)) (cs : List AV) (vs : List Value) (xs : List AV), VRL μ cs vs → cs.all AV.isCell = true →
    ps.length = qs.length → (∀ (i : Nat) p, ps[i]? = some p → ∃ v, qs[i]? = some (p.1, v) ∧ VR μ p.2 v) → fillA place cs ps = some xs →
    ∃ us, Instr.fill place vs.toArray qs = some us.toArray ∧ VRL μ xs us ∧ xs.all AV.isCell = true
  | [], qs, cs, vs, xs, hv, hc, hl, hp, hf => by
    have : qs = [] := List.length_eq_zero_iff.1 hl.symm
    subst this
    simp only [fillA, Option.some.injEq] at hf; subst hf
    exact ⟨vs, by simp [Instr.fill], hv, hc⟩
  | (i, x) :: ps, [], cs, vs, xs, hv, hc, hl, hp, hf => by simp at hl
  | (i, x) :: ps, q :: qs, cs, vs, xs, hv, hc, hl, hp, hf => by
    obtain ⟨v, hq, hx⟩ := hp 0 (i, x) rfl
    simp at hq; subst hq
    simp only [fillA] at hf
    cases hpl : place i with
    | none => simp [hpl] at hf
    | some os =>
      obtain ⟨off, size⟩ := os
      simp only [hpl] at hf
      split at hf
      · cases hf
      · rename_i hcond
        simp only [ne_eq, decide_not, Bool.or_eq_true, Bool.not_eq_eq_eq_not, Bool.not_true, decide_eq_true_eq, decide_eq_false_iff_not, not_or, Bool.not_eq_false, Decidable.not_not, Nat.not_lt, gt_iff_lt] at hcond
        obtain ⟨⟨hsz, hle⟩, hall⟩ := hcond
        have hxc := hx.cells hall
        have hlx := hxc.length
        have hlv := hv.length
        simp only [Array.length_toList] at hlx
        have hfs := foldl_set off v.cells.toList 0 vs.toArray (by simp; omega)
        obtain ⟨us, h1, h2, h3⟩ := fill_VR ps qs (splice cs off x.cells) ((v.cells.toList.zipIdx).foldl (fun (cs : Array Value) p => cs.setIfInBounds (off + p.2) p.1) vs.toArray).toList xs
          (VRL.of_get (by rw [splice_length hle]; simp [hfs.1, hlv]) fun j y e => by
            rw [splice_get hle] at e
            have := hfs.2 j
            simp only [Nat.add_zero, Array.length_toList] at this
            rw [Array.getElem?_toList, this]
            split at e
            · rename_i hj
              obtain ⟨u, k1, k2⟩ := hxc.get e
              exact ⟨u, by rw [if_pos (by omega)]; exact k1, k2⟩
            · rename_i hj
              obtain ⟨u, k1, k2⟩ := hv.get e
              exact ⟨u, by rw [if_neg (by omega)]; simpa using k1, k2⟩)
          (by
            rw [List.all_eq_true] at hc hall ⊢
            intro y hy
            simp only [splice, List.mem_append] at hy
            rcases hy with (hy | hy) | hy
            · exact hc y (List.mem_of_mem_take hy)
            · exact hall y hy
            · exact hc y (List.mem_of_mem_drop hy))
          (by simpa using hl) (fun j p e => hp (j + 1) p (by simpa using e)) hf
        refine ⟨us, ?_, h2, h3⟩
        simp only [Instr.fill, hpl]
        rw [if_neg (by simp; omega)]
        rw [← h1]
        congr 1
        rw [← Array.foldl_toList]
        simp

theorem parts_rel {E : Look} {ρ : Operand → Value} (hE : ∀ x y, opv E x = some y → VR μ y (ρ x)) : ∀ (ps : List (Nat × Operand)) (qs : List (Nat × AV)), partsA E ps = some qs →
    qs.length = ps.length ∧ ∀ (i : Nat) p, qs[i]? = some p → ∃ v, (ps.map fun q => (q.1, ρ q.2))[i]? = some (p.1, v) ∧ VR μ p.2 v
  | [], qs, h => by simp [partsA] at h; subst h; simp
  | (n, x) :: ps, qs, h => by
    simp only [partsA] at h
    split at h
    · rename_i v vs h1 h2
      cases h
      obtain ⟨k1, k2⟩ := parts_rel hE ps vs h2
      refine ⟨by simp [k1], fun i p e => ?_⟩
      cases i with
      | zero => simp at e; subst e; exact ⟨ρ x, by simp, hE _ _ h1⟩
      | succ i => simpa using k2 i p (by simpa using e)
    · cases h

theorem run_places {fs : List Field} {l : List (Nat × Nat)} (h : places P fs = some l) : (fs.mapM fun f => (do pure (f.offset, ← sizeOf f.type) : Sem (Nat × Nat))).run P w = .ok l w := by
  induction fs generalizing l with
  | nil => simp [places] at h; subst h; simp
  | cons f fs ih =>
    simp only [places] at h
    split at h
    · rename_i i l' h1 h2
      cases h
      have hs : szOf P f.type = some i.size := by simp [szOf, h1]
      simp only [List.mapM_cons, Sem.run_bind, run_sizeOf hs, Result.andThen_ok, Sem.run_pure, ih h2]
    · cases h

theorem sim_build {t : TypeId} {ps : List (Nat × AV)} {qs : Array (Nat × Value)} (hr : RelG W0 μ w H G) (hl : ps.length = qs.toList.length)
    (hp : ∀ (i : Nat) p, ps[i]? = some p → ∃ v, qs.toList[i]? = some (p.1, v) ∧ VR μ p.2 v) : Sim P W0 G μ w H VR (evBuild P t ps) (Instr.build t qs) := by
  unfold evBuild
  refine Sim.need fun z hz => ?_
  obtain ⟨zv, k1, k2, k3, k4⟩ := zeroOf_spec (μ := μ) hz
  split
  · rename_i fs hs
    refine Sim.need fun pl hpl => Sim.need fun cs hcs => ?_
    obtain ⟨us, f1, f2, f3⟩ := fill_VR ps qs.toList z.cells zv.cells.toList cs k4 k3 hl hp hcs
    refine Sim.ret (b := .agg us.toArray) ?_ hr (.agg f2 f3)
    have hpp := run_places (w := w) hpl
    have hfm : (fs.mapM fun f => (do pure (f.offset, ← sizeOf f.type) : Sem (Nat × Nat))).run P w = .ok pl.toArray w := by
      rw [← Array.toArray_toList (xs := fs)]
      rw [List.mapM_toArray]
      simp only [Sem.run_map, hpp, Result.andThen_ok]
    simp only [Instr.build, Sem.run_bind, k1, Result.andThen_ok, run_underlying hs, hfm]
    have : (fun (i : Nat) => (pl.toArray)[i]?) = fun (i : Nat) => pl[i]? := by funext i; simp
    simp only [this]
    simp only [Array.toArray_toList] at f1
    rw [f1]
    simp
  · rename_i n e hs
    refine Sim.need fun sz hsz => Sim.need fun cs hcs => ?_
    obtain ⟨us, f1, f2, f3⟩ := fill_VR ps qs.toList z.cells zv.cells.toList cs k4 k3 hl hp hcs
    refine Sim.ret (b := .agg us.toArray) ?_ hr (.agg f2 f3)
    simp only [Array.toArray_toList] at f1
    simp [Instr.build, k1, run_underlying hs, run_sizeOf hsz, f1]
  · exact Sim.fail

theorem rep_get (zs : List AV) : ∀ (n i : Nat), (repCells zs n)[i]? = if i < n * zs.length then zs[i % zs.length]? else none
  | 0, i => by simp [repCells]
  | n + 1, i => by
    simp only [repCells]
    by_cases h : i < zs.length
    · rw [List.getElem?_append_left h, if_pos (by rw [Nat.add_mul]; omega), Nat.mod_eq_of_lt h]
    · rw [List.getElem?_append_right (by omega), rep_get zs n]
      have e : i % zs.length = (i - zs.length) % zs.length := by
        rw [← Nat.mod_eq_sub_mod (by omega)]
      rw [e]
      by_cases h2 : i - zs.length < n * zs.length
      · rw [if_pos h2, if_pos (by rw [Nat.add_mul]; omega)]
      · rw [if_neg h2, if_neg (by rw [Nat.add_mul]; omega)]
theorem rep_length (zs : List AV) (n : Nat) : (repCells zs n).length = n * zs.length := by
  induction n with
  | zero => simp [repCells]
  | succ n ih => simp [repCells, ih, Nat.add_mul]; omega
theorem rep_all {zs : List AV} (h : zs.all AV.isCell = true) (n : Nat) : (repCells zs n).all AV.isCell = true := by
  induction n with
  | zero => rfl
  | succ n ih => simp [repCells, List.all_append, h, ih]
theorem rep_VRL {zs : List AV} {vs : Array Value} (h : VRL μ zs vs.toList) (n : Nat) : VRL μ (repCells zs n) ((Array.range (n * vs.size)).map fun i => vs[i % vs.size]!).toList := by
  have hl := h.length
  simp only [Array.length_toList] at hl
  refine VRL.of_get (by rw [rep_length]; simp [hl]) fun i x e => ?_
  rw [rep_get] at e
  split at e
  · rename_i hi
    obtain ⟨v, k1, k2⟩ := h.get e
    refine ⟨v, ?_, k2⟩
    rw [hl] at hi k1
    simp only [Array.getElem?_toList] at k1 ⊢
    have hlt := lt_of_get? k1
    simp [hi, Array.getElem!_eq_getD, Array.getD_eq_getD_getElem?, k1]
  · cases e

theorem elemSz_spec {t e : TypeId} {sz bytes : Nat} (h : elemSz P t = some (e, sz, bytes)) : P.underlying t = some (.slice e) ∧ szOf P e = some sz ∧ ∃ i, P.info? e = some i ∧ i.size = sz ∧ i.bytes = bytes := by
  unfold elemSz at h
  split at h
  · rename_i e' hu
    cases hi : P.info? e' with
    | none => simp [hi] at h
    | some i =>
      simp only [hi, Option.map_some, Option.some.injEq, Prod.mk.injEq] at h
      obtain ⟨rfl, rfl, rfl⟩ := h
      exact ⟨hu, by simp [szOf, hi], i, hi, rfl, rfl⟩
  · cases h

/-- A new row, known to the last of its cells: a slice of known capacity. -/
theorem sim_newX {cs : List AV} {vs : List Value} {es n c : Nat} {g : Bool} {el : TypeId} (hr : RelG W0 μ w H G) (hv : VRL μ cs vs) (hall : cs.all AV.isCell = true) (hle : n ≤ c) {s : Sem Value}
    (hs : s.run P w = ((do let a ← newRow el vs.toArray; pure (.slice (some a) n c) : Sem Value)).run P w) :
    Sim P W0 G μ w H VR (bnd (Ab.alc cs es g) fun b => Ab.ret (.sl (some (b, 0)) n (some c))) s := by
  refine Sim.run hs ?_
  have h := Sim.alc (P := P) (es := es) (g := g) (el := el) (rest := []) hr hv hall
  simp only [List.append_nil, List.length_nil, Nat.add_zero] at h
  refine Sim.bind h fun b a μ' w' H' _ hr' hm => ?_
  obtain ⟨l, k1, rfl, k3, _⟩ := hm
  refine Sim.ret (b := .slice (some ⟨l.blk, l.sh, none⟩) n c) (by simp) hr' ?_
  exact .slX (o := 0) k1 hle

theorem sliceCells_run {t : TypeId} {n sz : Nat} {ps : List (Nat × AV)} {qs : Array (Nat × Value)} {xs : List AV} (h : sliceCells P t n ps = some (xs, sz)) (hl : ps.length = qs.toList.length)
    (hp : ∀ (i : Nat) p, ps[i]? = some p → ∃ v, qs.toList[i]? = some (p.1, v) ∧ VR μ p.2 v) :
    ∃ us e, (Instr.buildSlice t n qs).run P w = ((do let a ← newRow e us.toArray; pure (.slice (some a) n n) : Sem Value)).run P w ∧ VRL μ xs us ∧ xs.all AV.isCell = true := by
  unfold sliceCells at h
  split at h
  · rename_i e sz' bytes hes
    obtain ⟨hu, hsz, _⟩ := elemSz_spec hes
    split at h
    · rename_i hle
      split at h
      · rename_i z hz
        split at h
        · rename_i hlen
          cases hf : fillA (fun i => some (i * sz', sz')) (repCells z.cells (if n * sz' = 0 then 0 else n)) ps with
          | none => simp [hf] at h
          | some ys =>
            simp only [hf, Option.map_some, Option.some.injEq, Prod.mk.injEq] at h
            obtain ⟨rfl, rfl⟩ := h
            by_cases h0 : n * sz' = 0
            · rw [if_pos h0] at hf
              obtain ⟨us, f1, f2, f3⟩ := fill_VR (μ := μ) ps qs.toList _ [] ys .nil rfl hl hp hf
              refine ⟨us, e, ?_, f2, f3⟩
              have : ¬ (n * sz' > 2 ^ 24) := by omega
              simp only [Instr.buildSlice, Sem.run_bind, run_underlying hu, Result.andThen_ok, run_sizeOf hsz, if_neg this, if_pos h0, Sem.run_pure]
              simp [h0, f1, show Array.range 0 = #[] from rfl]
            · rw [if_neg h0] at hf hz
              obtain ⟨zv, k1, k2, k3, k4⟩ := zeroOf_spec (μ := μ) hz
              have hzl : zv.cells.size = sz' := by
                have := k4.length
                simp only [Array.length_toList] at this
                rcases hlen with h | h
                · exact absurd h h0
                · omega
              obtain ⟨us, f1, f2, f3⟩ := fill_VR (μ := μ) ps qs.toList _ _ ys (rep_VRL k4 n) (rep_all k3 n) hl hp hf
              refine ⟨us, e, ?_, f2, f3⟩
              simp only [Array.toArray_toList] at f1
              have : ¬ (n * sz' > 2 ^ 24) := by omega
              rw [hzl] at f1
              simp only [Instr.buildSlice, Sem.run_bind, run_underlying hu, Result.andThen_ok, run_sizeOf hsz, if_neg this, if_neg h0, k1, Sem.run_pure, hzl, f1]
        · cases h
      · cases h
    · cases h
  · cases h
theorem sim_buildSlice {t : TypeId} {n : Nat} {ps : List (Nat × AV)} {qs : Array (Nat × Value)} (hr : RelG W0 μ w H G) (hl : ps.length = qs.toList.length)
    (hp : ∀ (i : Nat) p, ps[i]? = some p → ∃ v, qs.toList[i]? = some (p.1, v) ∧ VR μ p.2 v) : Sim P W0 G μ w H VR (evBuildSlice P t n ps) (Instr.buildSlice t n qs) := by
  unfold evBuildSlice
  refine Sim.need fun r hr1 => ?_
  obtain ⟨cs, sz⟩ := r
  obtain ⟨us, e, f1, f2, f3⟩ := sliceCells_run (w := w) hr1 hl hp
  exact sim_newX (el := e) hr f2 f3 (Nat.le_refl _) f1

theorem sim_mkS {t e : TypeId} {sz bytes : Nat} {z l c : AV} {lv cv : Value} (hr : RelG W0 μ w H G) (hl : VR μ l lv) (hc : VR μ c cv) (he : elemSz P t = some (e, sz, bytes)) (hz : zeroOf P e = some z) (hzl : z.cells.length = sz) :
    Sim P W0 G μ w H VR (mkS sz bytes z.cells l c) (Instr.makeSlice t lv cv) := by
  obtain ⟨hu, hsz, i, hi, _, hb⟩ := elemSz_spec he
  obtain ⟨zv, k1, k2, k3, k4⟩ := zeroOf_spec (μ := μ) hz
  have hzv : zv.cells.size = sz := by have := k4.length; simp only [Array.length_toList] at this; omega
  cases hl with
  | int k n =>
    cases hc with
    | int k' m =>
      simp only [mkS]
      refine Sim.ite fun hcond => ?_
      obtain ⟨h0, h1, h2, h3⟩ := hcond
      refine sim_newX (el := e) hr (rep_VRL k4 m.toNat) (rep_all k3 m.toNat) (by omega) ?_
      have w1 : IntKind.i64.wrap n = n := by simp [IntKind.wrap, IntKind.bits, IntKind.signed]; omega
      have w2 : IntKind.i64.wrap m = m := by simp [IntKind.wrap, IntKind.bits, IntKind.signed]; omega
      have hbm : (bytes : Int) * m ≤ 2 ^ 48 := by
        have : (bytes : Int) * m ≤ 4096 * 4294967296 := Int.mul_le_mul (by omega) h2 (by omega) (by omega)
        omega
      have g1 : ¬ (m < 0 ∨ (bytes : Int) * m > 2 ^ 48) := by omega
      simp only [Instr.makeSlice, Sem.run_bind, run_underlying hu, Result.andThen_ok, asInt, asIntOf, Sem.run_pure, run_typeInfo hi, hb, w1, w2]
      have g2 : (((decide (m < 0) || decide ((bytes : Int) * m > 2 ^ 48)) || decide (n < 0)) || decide (n > m)) = false := by
        simp; omega
      rw [if_neg (by rw [g2]; simp)]
      simp only [run_askRoom, Result.andThen_ok, run_sizeOf hsz, Sem.run_bind]
      by_cases hn : m.toNat * sz = 0
      · simp [hn, hzv, show Array.range 0 = #[] from rfl]
      · simp only [if_neg hn, Sem.run_bind, k1, Result.andThen_ok, Sem.run_pure, hzv, Array.toArray_toList]
    | _ => exact Sim.fail
  | _ => cases hc <;> exact Sim.fail
end
end Go.Ab
