/- Renaming of new blocks, dropping of garbage: from a run to a summary. -/
import Derived.Test.YtchikbhlojpolaaGreatAb22
namespace Go.Ab
open Go Go.RowKit

mutual
/-- A value under new numbers (left) and under the old ones. -/
inductive RN (ρ : Nat → Option Nat) : AV → AV → Prop
  | bool (b : Bool) : RN ρ (.bool b) (.bool b)
  | int (k : IntKind) (n : Int) : RN ρ (.int k n) (.int k n)
  | str (s : ByteArray) : RN ρ (.str s) (.str s)
  | ptr0 : RN ρ (.ptr none) (.ptr none)
  | ptr {b b' o : Nat} (h : ρ b = some b') : RN ρ (.ptr (some (b, o))) (.ptr (some (b', o)))
  | sl0 {len : Nat} {c : Option Nat} : RN ρ (.sl none len c) (.sl none len c)
  | sl {b b' o len : Nat} {c : Option Nat} (h : ρ b = some b') : RN ρ (.sl (some (b, o)) len c) (.sl (some (b', o)) len c)
  | fn {f : FuncId} {cs ds : List AV} (h : RNL ρ cs ds) : RN ρ (.fn f cs) (.fn f ds)
  | nilfn : RN ρ .nilfn .nilfn
  | nilifc : RN ρ .nilifc .nilifc
  | ifc {t : TypeId} {x y : AV} (h : RN ρ x y) : RN ρ (.ifc t x) (.ifc t y)
  | agg {cs ds : List AV} (h : RNL ρ cs ds) : RN ρ (.agg cs) (.agg ds)
  | tup {cs ds : List AV} (h : RNL ρ cs ds) : RN ρ (.tup cs) (.tup ds)
inductive RNL (ρ : Nat → Option Nat) : List AV → List AV → Prop
  | nil : RNL ρ [] []
  | cons {x y : AV} {xs ys : List AV} (h : RN ρ x y) (t : RNL ρ xs ys) : RNL ρ (x :: xs) (y :: ys)
end

theorem RN.isCell {ρ : Nat → Option Nat} {x y : AV} (h : RN ρ x y) : x.isCell = y.isCell := by cases h <;> rfl
theorem RNL.all {ρ : Nat → Option Nat} : ∀ {xs ys : List AV}, RNL ρ xs ys → xs.all AV.isCell = ys.all AV.isCell
  | _, _, .nil => rfl
  | _, _, .cons h t => by simp only [List.all_cons, h.isCell, RNL.all t]
theorem RNL.length {ρ : Nat → Option Nat} : ∀ {xs ys : List AV}, RNL ρ xs ys → xs.length = ys.length
  | _, _, .nil => rfl
  | _, _, .cons _ t => by simp [RNL.length t]
theorem RNL.get {ρ : Nat → Option Nat} : ∀ {xs ys : List AV}, RNL ρ xs ys → ∀ {i : Nat} {x : AV}, xs[i]? = some x → ∃ y, ys[i]? = some y ∧ RN ρ x y
  | _, _, .nil, i, x, h => by simp at h
  | _, _, .cons h t, 0, x, e => by simp at e; subst e; exact ⟨_, rfl, h⟩
  | _, _, .cons h t, i + 1, x, e => by
    simp at e
    obtain ⟨v, hv, r⟩ := RNL.get t e
    exact ⟨v, by simpa using hv, r⟩

def reMu (ρ : Nat → Option Nat) (μ : Mu) : Mu := fun b => (ρ b).bind μ
mutual
theorem RN.vr {ρ : Nat → Option Nat} {μ : Mu} : ∀ {x y : AV} {v : Value}, RN ρ x y → VR μ y v → VR (reMu ρ μ) x v
  | _, _, _, .bool b, .bool _ => .bool b
  | _, _, _, .int k n, .int _ _ => .int k n
  | _, _, _, .str s, .str _ => .str s
  | _, _, _, .ptr0, .ptr0 => .ptr0
  | _, _, _, .ptr h, .ptr k => .ptr (by simp [reMu, h, k])
  | _, _, _, .sl0, .sl0 => .sl0
  | _, _, _, .sl h, .slX k hc => .slX (by simp [reMu, h, k]) hc
  | _, _, _, .sl h, .slX0 k => .slX0 (by simp [reMu, h]; exact k)
  | _, _, _, .sl h, .slU k h1 h2 h3 h4 => .slU (by simp [reMu, h, k]) h1 h2 h3 h4
  | _, _, _, .sl h, .slE k he => .slE (by simp [reMu, h]; exact k) he
  | _, _, _, .fn h, .fn k => .fn (RNL.vr h k)
  | _, _, _, .nilfn, .nilfn => .nilfn
  | _, _, _, .nilifc, .nilifc => .nilifc
  | _, _, _, .ifc h, .ifc k => .ifc (RN.vr h k)
  | _, _, _, .agg h, .agg k hc => .agg (RNL.vr h k) (by rw [h.all]; exact hc)
  | _, _, _, .tup h, .tup k => .tup (RNL.vr h k)
theorem RNL.vr {ρ : Nat → Option Nat} {μ : Mu} : ∀ {xs ys : List AV} {vs : List Value}, RNL ρ xs ys → VRL μ ys vs → VRL (reMu ρ μ) xs vs
  | _, _, _, .nil, .nil => .nil
  | _, _, _, .cons h t, .cons k u => .cons (RN.vr h k) (RNL.vr t u)
end

mutual
/-- What stands for something reads as it did where the numbers that count are kept. -/
theorem VR.self {ρ : Nat → Option Nat} {μ : Mu} (hρ : ∀ b, (μ b).isSome = true → ρ b = some b) : ∀ {x : AV} {v : Value}, VR μ x v → RN ρ x x
  | _, _, .bool b => .bool b
  | _, _, .int k n => .int k n
  | _, _, .str s => .str s
  | _, _, .ptr0 => .ptr0
  | _, _, .ptr h => .ptr (hρ _ (by simp [h]))
  | _, _, .sl0 => .sl0
  | _, _, .slX h _ => .sl (hρ _ (by simp [h]))
  | _, _, .slX0 h => .sl (hρ _ (by simp [h]))
  | _, _, .slU h _ _ _ _ => .sl (hρ _ (by simp [h]))
  | _, _, .slE h _ => .sl (hρ _ (by simp [h]))
  | _, _, .fn h => .fn (VRL.self hρ h)
  | _, _, .nilfn => .nilfn
  | _, _, .nilifc => .nilifc
  | _, _, .ifc h => .ifc (VR.self hρ h)
  | _, _, .agg h _ => .agg (VRL.self hρ h)
  | _, _, .tup h => .tup (VRL.self hρ h)
theorem VRL.self {ρ : Nat → Option Nat} {μ : Mu} (hρ : ∀ b, (μ b).isSome = true → ρ b = some b) : ∀ {xs : List AV} {vs : List Value}, VRL μ xs vs → RNL ρ xs xs
  | _, _, .nil => .nil
  | _, _, .cons h t => .cons (VR.self hρ h) (VRL.self hρ t)
end

/-- A block under new numbers and under the old ones. -/
inductive BR (ρ : Nat → Option Nat) : Blk → Blk → Prop
  | cells {cs ds : List AV} {es : Nat} {g own : Bool} (h : RNL ρ cs ds) : BR ρ (.cells cs es g own) (.cells ds es g own)
  | iter {s : ByteArray} {pos : Nat} : BR ρ (.iter s pos) (.iter s pos)
theorem BR.own {ρ : Nat → Option Nat} {x y : Blk} (h : BR ρ x y) : x.own = y.own := by cases h <;> rfl
theorem BR.hi {ρ : Nat → Option Nat} {x y : Blk} (h : BR ρ x y) (l : Loc) : hiOf x l = hiOf y l := by cases h <;> rfl
theorem BR.isRow {ρ : Nat → Option Nat} {x y : Blk} (h : BR ρ x y) : x.isRow ↔ y.isRow := by cases h <;> exact Iff.rfl
/-- H2 is H1 under new numbers, without what nobody needs. -/
structure Renm (n0 : Nat) (ρ : Nat → Option Nat) (H1 H2 : AH) : Prop where
  low : ∀ b, b < n0 → ρ b = some b
  hi : ∀ b c, n0 ≤ b → ρ b = some c → n0 ≤ c
  inj : ∀ b b' c, ρ b = some c → ρ b' = some c → b = b'
  nx : n0 ≤ H2.nx
  top : ∀ b, H2.nx ≤ b → ρ b = none
  blk : ∀ b x, H2.bk b = some x → ∃ c y, ρ b = some c ∧ H1.bk c = some y ∧ BR ρ x y

theorem Row.ren {W0 : World} {ρ : Nat → Option Nat} {μ : Mu} {w : World} {cs ds : List AV} {es : Nat} {own : Bool} {l : Loc} (h : Row W0 μ w ds es own l) (hr : RNL ρ cs ds) : Row W0 (reMu ρ μ) w cs es own l := by
  obtain ⟨C, el, fz, h1, h2, h3, h4⟩ := h.at_
  refine ⟨⟨C, el, fz, h1, h2, fun i x e => ?_, h4⟩, by rw [hr.length]; exact h.len, h.es_, h.fits, h.old⟩
  obtain ⟨y, hy, r⟩ := hr.get e
  obtain ⟨k1, v, k2, k3⟩ := h3 i y hy
  exact ⟨by rw [r.isCell]; exact k1, v, k2, r.vr k3⟩

theorem RelG.ren {W0 : World} {μ0 μ1 : Mu} {w0 w : World} {H0 H1 H2 : AH} {G : Nat → Option Blk} {ρ : Nat → Option Nat} (h0 : RelG W0 μ0 w0 H0 G) (h1 : RelG W0 μ1 w H1 G) (hn : Renm H0.nx ρ H1 H2) :
    RelG W0 (reMu ρ μ1) w H2 G := by
  have hfr : ∀ b, (μ0 b).isSome = true → ρ b = some b := by
    intro b hb
    refine hn.low b ?_
    rcases Nat.lt_or_ge b H0.nx with h | h
    · exact h
    · have := h0.rel.fresh b h; simp [this] at hb
  have hGl : ∀ b x, G b = some x → b < H0.nx := by
    intro b x hb
    rcases Nat.lt_or_ge b H0.nx with h | h
    · exact h
    · have := h0.gnone h; simp [this] at hb
  have hdis : ∀ b, (H2.bk b).isSome = true → G b = none := by
    intro b hb
    cases hx : H2.bk b with
    | none => simp [hx] at hb
    | some x =>
      obtain ⟨c, y, e1, e2, _⟩ := hn.blk b x hx
      cases hg : G b with
      | none => rfl
      | some z =>
        have hb' := hGl b z hg
        rw [hn.low b hb'] at e1; cases e1
        have := h1.dis b (by simp [e2])
        simp [this] at hg
  -- a block of H2 plus G, and what it was
  have key : ∀ b x, (H2.plus G).bk b = some x → ∃ c y, ρ b = some c ∧ (H1.plus G).bk c = some y ∧ BR ρ x y := by
    intro b x hx
    simp only [AH.plus] at hx
    cases h2 : H2.bk b with
    | some x' =>
      simp only [h2, Option.some.injEq] at hx; subst hx
      obtain ⟨c, y, e1, e2, e3⟩ := hn.blk b x' h2
      exact ⟨c, y, e1, plus_some e2, e3⟩
    | none =>
      simp only [h2] at hx
      have hb := hGl b x hx
      have hH1 : H1.bk b = none := by
        cases hq : H1.bk b with
        | none => rfl
        | some y => have := h1.dis b (by simp [hq]); simp [this] at hx
      refine ⟨b, x, hn.low b hb, by simp [AH.plus, hH1, hx], ?_⟩
      have hp0 : (H0.plus G).bk b = some x := by
        have : H0.bk b = none := by
          cases hq : H0.bk b with
          | none => rfl
          | some y => have := h0.dis b (by simp [hq]); simp [this] at hx
        simp [AH.plus, this, hx]
      cases x with
      | iter s p => exact .iter
      | cells cs es g own =>
        refine .cells ?_
        obtain ⟨l, hl, hr⟩ := h0.rel.row b cs es g own hp0
        obtain ⟨C, el, fz, q1, q2, q3, q4⟩ := hr.at_
        have : VRL μ0 cs (cs.mapIdx fun i _ => C.getD (l.sh + i) undef) := by
          refine VRL.of_get (by simp) fun i y e => ?_
          obtain ⟨_, v, hv, hvr⟩ := q3 i y e
          refine ⟨v, ?_, hvr⟩
          rw [List.getElem?_mapIdx, e]
          simp [Array.getD_eq_getD_getElem?, hv]
        exact VRL.self hfr this
  refine ⟨⟨h1.rel.below, ?_, ?_, ?_, ?_⟩, hdis⟩
  · intro b cs es g own hb
    obtain ⟨c, y, e1, e2, e3⟩ := key b _ hb
    cases e3 with
    | cells hr =>
      obtain ⟨l, hl, hrow⟩ := h1.rel.row c _ _ _ _ e2
      exact ⟨l, by simp [reMu, e1, hl], hrow.ren hr⟩
  · intro b s pos hb
    obtain ⟨c, y, e1, e2, e3⟩ := key b _ hb
    cases e3 with
    | iter =>
      obtain ⟨l, hl, hrow⟩ := h1.rel.iter c _ _ e2
      exact ⟨l, by simp [reMu, e1, hl], hrow⟩
  · intro b b' x x' l m hne hx hx' ho ho' hl hm
    obtain ⟨c, y, e1, e2, e3⟩ := key b _ hx
    obtain ⟨c', y', e1', e2', e3'⟩ := key b' _ hx'
    simp only [reMu, e1, Option.bind_some] at hl
    simp only [reMu, e1', Option.bind_some] at hm
    have hcc : c ≠ c' := fun h => hne (hn.inj b b' c e1 (by rw [h]; exact e1'))
    have := h1.rel.apart c c' y y' l m hcc e2 e2' (by rw [← e3.own]; exact ho) (by rw [← e3'.own]; exact ho') hl hm
    unfold Apart at this ⊢
    rw [e3.hi l, e3'.hi m, e3.isRow, e3'.isRow]
    exact this
  · intro b hb
    simp only [reMu, hn.top b hb, Option.bind_none]

/-- Memory whose numbers all lie below the next one. -/
structure AH.WF (H : AH) : Prop where
  lt : ∀ b x, H.bk b = some x → b < H.nx
  self : ∀ b x, H.bk b = some x → ∀ ρ : Nat → Option Nat, (∀ c, c < H.nx → ρ c = some c) → BR ρ x x
def ArgWF (n : Nat) (args : List AV) : Prop := ∀ ρ : Nat → Option Nat, (∀ c, c < n → ρ c = some c) → RNL ρ args args
theorem RelG.wf {W0 : World} {μ : Mu} {w : World} {H : AH} {G : Nat → Option Blk} (h : RelG W0 μ w H G) : H.WF := by
  have hfr : ∀ b, (μ b).isSome = true → b < H.nx := by
    intro b hb
    rcases Nat.lt_or_ge b H.nx with h' | h'
    · exact h'
    · have := h.rel.fresh b h'; simp [this] at hb
  refine ⟨fun b x hx => ?_, fun b x hx ρ hρ => ?_⟩
  · cases x with
    | cells cs es g own => obtain ⟨l, hl, _⟩ := h.rel.row b _ _ _ _ (plus_some hx); exact hfr b (by simp [hl])
    | iter s pos => obtain ⟨l, hl, _⟩ := h.rel.iter b _ _ (plus_some hx); exact hfr b (by simp [hl])
  · cases x with
    | iter s pos => exact .iter
    | cells cs es g own =>
      refine .cells ?_
      obtain ⟨l, hl, hr⟩ := h.rel.row b cs es g own (plus_some hx)
      obtain ⟨C, el, fz, q1, q2, q3, q4⟩ := hr.at_
      have : VRL μ cs (cs.mapIdx fun i _ => C.getD (l.sh + i) undef) := by
        refine VRL.of_get (by simp) fun i y e => ?_
        obtain ⟨_, v, hv, hvr⟩ := q3 i y e
        refine ⟨v, ?_, hvr⟩
        rw [List.getElem?_mapIdx, e]
        simp [Array.getD_eq_getD_getElem?, hv]
      exact VRL.self (fun b hb => hρ b (hfr b hb)) this
theorem RelG.argWF {W0 : World} {μ : Mu} {w : World} {H : AH} {G : Nat → Option Blk} (h : RelG W0 μ w H G) {args : List AV} {vs : List Value} (hv : VRL μ args vs) : ArgWF H.nx args := by
  intro ρ hρ
  refine VRL.self (fun b hb => hρ b ?_) hv
  rcases Nat.lt_or_ge b H.nx with h' | h'
  · exact h'
  · have := h.rel.fresh b h'; simp [this] at hb

/-- A summary is kept if a run comes to it, up to new numbers and garbage. -/
theorem Good.of {P : Program} {S : Sums} {A : FuncId → Ann} {f : FuncId} {s : List AV → M AV} (hm : P.follows .mixedOrders = true) (hS : GoodS P S)
    (hfn : ∃ fn c, P.funcs[f]? = some fn ∧ fn.body = some c ∧ fn.name ≠ "runtime.NumGoroutine")
    (h : ∀ args H v H', H.WF → ArgWF H.nx args → s args H = some (v, H') → ∃ v1 H1 ρ, callS S A P f args H = some (v1, H1) ∧ Renm H.nx ρ H1 H' ∧ RN ρ v v1) : Good P f s := by
  refine ⟨hfn, ?_⟩
  intro W0 G args vs μ w H H' v hr hv hs
  obtain ⟨v1, H1, ρ, h1, h2, h3⟩ := h args H v H' hr.wf (hr.argWF hv) hs
  refine Calls.mono (calls_ofS hm hS hr hv h1) fun e w' ⟨v', μ', he, hl, hg, hvr⟩ => ?_
  refine ⟨v', reMu ρ μ', he, ⟨fun b l hb => ?_, fun b hb => ?_, h2.nx⟩, hr.ren hg h2, h3.vr hvr⟩
  · have hlt : b < H.nx := by
      rcases Nat.lt_or_ge b H.nx with h' | h'
      · exact h'
      · have := hr.rel.fresh b h'; simp [this] at hb
    simp [reMu, h2.low b hlt, hl.le b l hb]
  · simp [reMu, h2.low b hb, hl.old b hb]
end Go.Ab
