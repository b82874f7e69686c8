/- The abstract machine: its steps stand for the model's: slicing, literals, makes. -/
import Derived.Test.YtchikbhlojpolaaGreatAb7
namespace Go.Ab
open Go Go.RowKit

inductive VRO (μ : Mu) : Option AV → Option Value → Prop
  | none : VRO μ none none
  | some {x : AV} {v : Value} (h : VR μ x v) : VRO μ (some x) (some v)

section
variable {P : Program} {W0 : World} {G : Nat → Option Blk} {μ : Mu} {w : World} {H : AH}

theorem run_sliceBound {k : IntKind} {n : Int} {y : Nat} {code : BoundsCode} (h : 0 ≤ n ∧ n ≤ (y : Int)) : (Instr.sliceBound (.int k n) y code).run P w = .ok n.toNat w := by
  simp [Instr.sliceBound, asIntOf, h]

theorem run_bounds {isSlice : Bool} {len cap l h m : Nat} {lo hi mx : Option AV} {lo' hi' mx' : Option Value} (hlo : VRO μ lo lo') (hhi : VRO μ hi hi') (hmx : VRO μ mx mx')
    (hg : (mx.isSome && hi.isNone) = false) (h1 : boundA cap cap mx = some m) (h2 : boundA len m hi = some h) (h3 : boundA 0 h lo = some l) :
    (Instr.sliceBounds isSlice len cap lo' hi' mx').run P w = .ok (l, h, m) w := by
  have b : ∀ {d y r : Nat} {o : AV} {v : Value} {code : BoundsCode}, VR μ o v → boundA d y (some o) = some r → (Instr.sliceBound v y code).run P w = .ok r w := by
    intro d y r o v code hv hb
    cases hv with
    | int k n =>
      simp only [boundA] at hb
      split at hb
      · rename_i hc
        cases hb
        exact run_sliceBound hc
      · cases hb
    | _ => simp [boundA] at hb
  unfold Instr.sliceBounds
  cases hmx with
  | none =>
    simp only [boundA, Option.some.injEq] at h1; subst h1
    cases hhi with
    | none =>
      simp only [boundA, Option.some.injEq] at h2; subst h2
      cases hlo with
      | none => simp only [boundA, Option.some.injEq] at h3; subst h3; simp
      | some hv => simp [b hv h3]
    | some hv2 =>
      cases hlo with
      | none => simp only [boundA, Option.some.injEq] at h3; subst h3; simp [b hv2 h2]
      | some hv => simp [b hv h3, b hv2 h2]
  | some hv1 =>
    cases hhi with
    | none => simp at hg
    | some hv2 =>
      cases hlo with
      | none => simp only [boundA, Option.some.injEq] at h3; subst h3; simp [b hv1 h1, b hv2 h2]
      | some hv => simp [b hv h3, b hv1 h1, b hv2 h2]

theorem boundA_int {d y r : Nat} {k : IntKind} {n : Int} (h : boundA d y (some (.int k n)) = some r) : 0 ≤ n ∧ n ≤ (y : Int) ∧ r = n.toNat := by
  simp only [boundA] at h
  split at h
  · rename_i hc; exact ⟨hc.1, hc.2, by simpa using h.symm⟩
  · simp at h
theorem boundA_some {d y r : Nat} {x : AV} (h : boundA d y (some x) = some r) : ∃ k n, x = .int k n := by
  cases x with
  | int k n => exact ⟨k, n, rfl⟩
  | _ => simp [boundA] at h
theorem boundA_top {d y r : Nat} {x : AV} (h : boundA d y (some x) = some r) : r ≤ y := by
  obtain ⟨k, n, rfl⟩ := boundA_some h
  have := boundA_int h
  omega
theorem boundA_wide {d d' y y' r : Nat} {x : AV} (h : boundA d y (some x) = some r) (hy : y ≤ y') : boundA d' y' (some x) = some r := by
  obtain ⟨k, n, rfl⟩ := boundA_some h
  have := boundA_int h
  simp only [boundA]
  rw [if_pos (by omega), this.2.2]
theorem boundA_le {d y r : Nat} {o : Option AV} (h : boundA d y o = some r) : r = d ∨ r ≤ y := by
  cases o with
  | none => simp [boundA] at h; exact .inl h.symm
  | some x => exact .inr (boundA_top h)

theorem sim_slStr {x : AV} {v : Value} {lo hi : Option AV} {lo' hi' : Option Value} {t : TypeId} (hr : RelG W0 μ w H G) (hx : VR μ x v) (hlo : VRO μ lo lo') (hhi : VRO μ hi hi')
    (ht : P.underlying t = some .string) : Sim P W0 G μ w H VR (slStr x lo hi) (Instr.sliceAt t v lo' hi' none) := by
  cases hx with
  | str s =>
    simp only [slStr]
    refine Sim.need fun h h2 => Sim.need fun l h3 => ?_
    refine Sim.ret (b := .string (s.extract l h)) ?_ hr (.str _)
    have hb := run_bounds (P := P) (w := w) (isSlice := false) (len := s.size) (cap := s.size) (mx := none) (mx' := none) (m := s.size) hlo hhi .none rfl rfl h2 h3
    simp [Instr.sliceAt, run_underlying ht, Instr.slice, hb]
  | _ => exact Sim.fail

theorem sim_slR {x : AV} {v : Value} {lo hi mx : Option AV} {lo' hi' mx' : Option Value} {t e : TypeId} {n sz : Nat} (hr : RelG W0 μ w H G) (hx : VR μ x v) (hlo : VRO μ lo lo') (hhi : VRO μ hi hi') (hmx : VRO μ mx mx')
    (hg : (mx.isSome && hi.isNone) = false) (ht : P.underlying t = some (.array n e)) (hn : szOf P e = some sz) : Sim P W0 G μ w H VR (slR n sz x lo hi mx) (Instr.sliceAt t v lo' hi' mx') := by
  cases hx with
  | @ptr b o l hl =>
    simp only [slR]
    refine Sim.need fun m h1 => Sim.need fun h h2 => Sim.need fun lw h3 => ?_
    have hb := run_bounds (P := P) (w := w) (isSlice := false) hlo hhi hmx hg h1 h2 h3
    have hle1 : h ≤ m := by
      rcases boundA_le h1 with k | k <;> rcases boundA_le h2 with k2 | k2 <;> try omega
      cases hi with
      | none => cases mx with
        | none => simp [boundA] at h1 h2; omega
        | some _ => simp at hg
      | some y => exact boundA_top h2
    have hle2 : lw ≤ h := by rcases boundA_le h3 with k | k <;> omega
    by_cases e : m = lw
    · refine Sim.ret (b := .slice (some ⟨l.blk, l.sh + o, none⟩) (h - lw) (m - lw)) ?_ hr ?_
      · simp [Instr.sliceAt, run_underlying ht, Instr.sureAddr, hb, run_sizeOf hn, e]
      · simp only [e, if_true]
        exact .slX hl (by omega)
    · refine Sim.ret (b := .slice (some ⟨l.blk, l.sh + (o + lw * sz), none⟩) (h - lw) (m - lw)) ?_ hr ?_
      · simp [Instr.sliceAt, run_underlying ht, Instr.sureAddr, hb, run_sizeOf hn, e, add_none, Nat.add_assoc]
      · rw [if_neg e]
        exact .slX hl (by omega)
  | _ => exact Sim.fail

theorem slS_some {esz : Nat} {a : Option Ref} {len c : Nat} {lo hi mx : Option AV} : slS esz (.sl a len (some c)) lo hi mx =
    need (boundA c c mx) fun m => need (boundA len m hi) fun h => need (boundA 0 h lo) fun l =>
      Ab.ret (.sl (if m = l then a else a.map fun r => (r.1, r.2 + l * esz)) (h - l) (some (m - l))) := rfl
theorem slS_unk {esz : Nat} {r : Ref} {len : Nat} {lo hi mx : Option AV} {H : AH} : slS esz (.sl (some r) len none) lo hi mx H =
    match H.blk? r.1 with
    | some (cs, es, _, _) =>
      if es = esz ∧ 0 < esz ∧ len * esz + r.2 ≤ cs.length then
        match mx with
        | none => (need (boundA len ((cs.length - r.2) / esz) hi) fun h => need (boundA 0 h lo) fun l => Ab.ret (.sl (some (r.1, r.2 + l * esz)) (h - l) none)) H
        | some mx => (need (boundA ((cs.length - r.2) / esz) ((cs.length - r.2) / esz) (some mx)) fun m => need (boundA len m hi) fun h => need (boundA 0 h lo) fun l =>
            Ab.ret (.sl (some (if m = l then r else (r.1, r.2 + l * esz))) (h - l) (some (m - l)))) H
      else none
    | none => none := rfl
theorem blk?_some {H : AH} {b : Nat} {cs : List AV} {es : Nat} {g o : Bool} (h : H.bk b = some (.cells cs es g o)) : H.blk? b = some (cs, es, g, o) := by simp [AH.blk?, h]
theorem blk?_inv {H : AH} {b : Nat} {cs : List AV} {es : Nat} {g o : Bool} (h : H.blk? b = some (cs, es, g, o)) : H.bk b = some (.cells cs es g o) := by
  unfold AH.blk? at h
  split at h
  · rename_i e; simp only [Option.some.injEq, Prod.mk.injEq] at h; obtain ⟨rfl, rfl, rfl, rfl⟩ := h; exact e
  · cases h
theorem sim_slX {a : Option Ref} {a' : Option Addr} {len c : Nat} {lo hi mx : Option AV} {lo' hi' mx' : Option Value} {t e : TypeId} {sz : Nat} (hr : RelG W0 μ w H G)
    (ha : (a = none ∧ a' = none) ∨ ∃ b o l, μ b = some l ∧ a = some (b, o) ∧ a' = some ⟨l.blk, l.sh + o, none⟩) (hle : len ≤ c) (hz : a = none → c = 0) (hlo : VRO μ lo lo') (hhi : VRO μ hi hi') (hmx : VRO μ mx mx')
    (hg : (mx.isSome && hi.isNone) = false) (ht : P.underlying t = some (.slice e)) (hn : szOf P e = some sz) :
    Sim P W0 G μ w H VR (slS sz (.sl a len (some c)) lo hi mx) (Instr.sliceAt t (.slice a' len c) lo' hi' mx') := by
  rw [slS_some]
  refine Sim.need fun m h1 => Sim.need fun h h2 => Sim.need fun lw h3 => ?_
  have hb := run_bounds (P := P) (w := w) (isSlice := true) hlo hhi hmx hg h1 h2 h3
  have hm : m ≤ c := by rcases boundA_le h1 with k | k <;> omega
  have hle1 : h ≤ m := by
    cases hi with
    | none => cases mx with
      | none => simp [boundA] at h1 h2; omega
      | some _ => simp at hg
    | some y => exact boundA_top h2
  have hle2 : lw ≤ h := by rcases boundA_le h3 with k | k <;> omega
  rcases ha with ⟨rfl, rfl⟩ | ⟨b, o, l, hl, rfl, rfl⟩
  · have := hz rfl
    have hm0 : m = 0 := by omega
    have hh0 : h = 0 := by omega
    have hl0 : lw = 0 := by omega
    subst hm0; subst hh0; subst hl0
    refine Sim.ret (b := .slice none 0 0) ?_ hr (by simpa using VR.sl0)
    simp [Instr.sliceAt, run_underlying ht, Instr.slice, hb, run_sizeOf hn]
  · by_cases e : m = lw
    · refine Sim.ret (b := .slice (some ⟨l.blk, l.sh + o, none⟩) (h - lw) (m - lw)) ?_ hr ?_
      · simp [Instr.sliceAt, run_underlying ht, Instr.slice, hb, run_sizeOf hn, e]
      · simp only [e, if_true]
        exact .slX hl (by omega)
    · refine Sim.ret (b := .slice (some ⟨l.blk, l.sh + (o + lw * sz), none⟩) (h - lw) (m - lw)) ?_ hr ?_
      · simp [Instr.sliceAt, run_underlying ht, Instr.slice, hb, run_sizeOf hn, e, add_none, Nat.add_assoc]
      · rw [if_neg e]
        exact .slX hl (by omega)

/-- A slice of unknown capacity: what is known of it while its block is there. -/
theorem slU_facts {b o len : Nat} {v : Value} (hr : RelG W0 μ w H G) (hv : VR μ (.sl (some (b, o)) len none) v) {cs : List AV} {es : Nat} {g own : Bool} (hb : H.bk b = some (.cells cs es g own)) :
    ∃ l a c, μ b = some l ∧ v = .slice (some a) len c ∧ Row W0 μ w cs es own l ∧ cs.length ≤ o + c * es ∧ o + len * es ≤ cs.length + (if len = 0 then o else 0) ∧ len ≤ c ∧
      ((a = ⟨l.blk, l.sh + o, none⟩ ∧ l.sh + o + c * es ≤ l.top) ∨ (len = 0 ∧ c = 0)) := by
  cases hv with
  | @slU _ _ _ c l hl h1 h2 h3 h4 =>
    have hrow := rowOf hr hl hb
    have e1 := hrow.es_
    have e2 := hrow.len
    refine ⟨l, _, c, hl, rfl, hrow, by rw [e2, ← e1]; exact h2, by rw [e2, ← e1]; split <;> omega, h4, .inl ⟨rfl, by rw [← e1]; exact h3⟩⟩
  | @slE _ _ l a hl he =>
    have hrow := rowOf hr hl hb
    have e2 := hrow.len
    exact ⟨l, a, 0, hl, rfl, hrow, by rw [e2]; omega, by simp, Nat.le_refl _, .inr ⟨rfl, rfl⟩⟩

theorem sim_slUnk {b o len : Nat} {v : Value} {lo hi mx : Option AV} {lo' hi' mx' : Option Value} {t e : TypeId} {sz : Nat} (hr : RelG W0 μ w H G)
    (hv : VR μ (.sl (some (b, o)) len none) v) (hlo : VRO μ lo lo') (hhi : VRO μ hi hi') (hmx : VRO μ mx mx')
    (hg : (mx.isSome && hi.isNone) = false) (ht : P.underlying t = some (.slice e)) (hn : szOf P e = some sz) :
    Sim P W0 G μ w H VR (slS sz (.sl (some (b, o)) len none) lo hi mx) (Instr.sliceAt t v lo' hi' mx') := by
  intro x H' ex
  rw [slS_unk] at ex
  cases hbq : H.blk? b with
  | none => simp only [hbq] at ex; cases ex
  | some q =>
    obtain ⟨cs, es, g, own⟩ := q
    · simp only [hbq] at ex
      have hbk := blk?_inv hbq
      obtain ⟨l, a, c, hl, rfl, hrow, f1, f2, f3, f4⟩ := slU_facts hr hv hbk
      split at ex
      · rename_i hcond
        obtain ⟨rfl, hpos, hfit⟩ := hcond
        have hk : (cs.length - o) / es ≤ c := by
          have : cs.length - o ≤ c * es := by omega
          calc (cs.length - o) / es ≤ (c * es) / es := Nat.div_le_div_right this
            _ = c := Nat.mul_div_cancel _ hpos
        have hkm : (cs.length - o) / es * es ≤ cs.length - o := Nat.div_mul_le_self _ _
        have hlk : len ≤ (cs.length - o) / es := by
          rw [Nat.le_div_iff_mul_le hpos]
          omega
        have hes := hrow.es_
        have hext := hrow.len
        cases mx with
        | none =>
          cases hmx
          simp only at ex
          have : Sim P W0 G μ w H VR (need (boundA len ((cs.length - o) / es) hi) fun h => need (boundA 0 h lo) fun l => Ab.ret (.sl (some (b, o + l * es)) (h - l) none)) (Instr.sliceAt t (.slice (some a) len c) lo' hi' none) := by
            refine Sim.need fun h h2 => Sim.need fun lw h3 => ?_
            have hle1 : h ≤ (cs.length - o) / es := by rcases boundA_le h2 with k | k <;> omega
            have hle2 : lw ≤ h := by rcases boundA_le h3 with k | k <;> omega
            have h2' : boundA len c hi = some h := by
              cases hi with
              | none => exact h2
              | some y => exact boundA_wide h2 hk
            have hb := run_bounds (P := P) (w := w) (isSlice := true) (mx := none) (mx' := none) (m := c) (cap := c) hlo hhi .none rfl rfl h2' h3
            have m1 : h * es ≤ (cs.length - o) / es * es := Nat.mul_le_mul_right _ hle1
            have m2 : (h - lw) * es + lw * es = h * es := by rw [← Nat.add_mul]; congr 1; omega
            have m3 : (c - lw) * es + lw * es = c * es := by rw [← Nat.add_mul]; congr 1; omega
            have m4 : (h - lw) * es ≤ (c - lw) * es := Nat.mul_le_mul_right _ (by omega)
            by_cases e : c = lw
            · refine Sim.ret (b := .slice (some a) (h - lw) (c - lw)) ?_ hr ?_
              · subst e; simp [Instr.sliceAt, run_underlying ht, Instr.slice, hb, run_sizeOf hn]
              · have e1 : h - lw = 0 := by omega
                have e2 : c - lw = 0 := by omega
                rw [e1, e2]
                refine .slE hl ?_
                rw [← hext, ← e]; omega
            · rcases f4 with ⟨rfl, f5⟩ | ⟨f5, f6⟩
              · refine Sim.ret (b := .slice (some ⟨l.blk, l.sh + (o + lw * es), none⟩) (h - lw) (c - lw)) ?_ hr ?_
                · simp [Instr.sliceAt, run_underlying ht, Instr.slice, hb, run_sizeOf hn, e, add_none, Nat.add_assoc]
                · refine .slU hl ?_ ?_ ?_ (by omega)
                  · rw [hes, ← hext]; omega
                  · rw [hes, ← hext]; omega
                  · rw [hes]; omega
              · omega
          exact this x H' ex
        | some mxv =>
          simp only at ex
          have : Sim P W0 G μ w H VR (need (boundA ((cs.length - o) / es) ((cs.length - o) / es) (some mxv)) fun m => need (boundA len m hi) fun h => need (boundA 0 h lo) fun l => Ab.ret (.sl (some (if m = l then (b, o) else (b, o + l * es))) (h - l) (some (m - l))))
              (Instr.sliceAt t (.slice (some a) len c) lo' hi' mx') := by
            refine Sim.need fun m h1 => Sim.need fun h h2 => Sim.need fun lw h3 => ?_
            have hm : m ≤ (cs.length - o) / es := by rcases boundA_le h1 with k | k <;> omega
            have h1' : boundA c c (some mxv) = some m := by
              exact boundA_wide h1 hk
            have hle1 : h ≤ m := by
              cases hi with
              | none => simp at hg
              | some y => exact boundA_top h2
            have hle2 : lw ≤ h := by rcases boundA_le h3 with k | k <;> omega
            have hb := run_bounds (P := P) (w := w) (isSlice := true) (cap := c) hlo hhi hmx hg h1' h2 h3
            rcases f4 with ⟨rfl, f5⟩ | ⟨f5, f6⟩
            · by_cases e : m = lw
              · refine Sim.ret (b := .slice (some ⟨l.blk, l.sh + o, none⟩) (h - lw) (m - lw)) ?_ hr ?_
                · simp [Instr.sliceAt, run_underlying ht, Instr.slice, hb, run_sizeOf hn, e]
                · simp only [e, if_true]
                  exact .slX hl (by omega)
              · refine Sim.ret (b := .slice (some ⟨l.blk, l.sh + (o + lw * es), none⟩) (h - lw) (m - lw)) ?_ hr ?_
                · simp [Instr.sliceAt, run_underlying ht, Instr.slice, hb, run_sizeOf hn, e, add_none, Nat.add_assoc]
                · rw [if_neg e]
                  exact .slX hl (by omega)
            · have hm0 : m = 0 := by omega
              have hh0 : h = 0 := by omega
              have hl0 : lw = 0 := by omega
              subst hm0; subst hh0; subst hl0
              refine Sim.ret (b := .slice (some a) 0 0) ?_ hr (by simpa using VR.slX0 hl)
              simp [Instr.sliceAt, run_underlying ht, Instr.slice, hb, run_sizeOf hn]
          exact this x H' ex
      · cases ex
end
end Go.Ab
