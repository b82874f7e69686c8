/- The abstract machine: its steps stand for the model's: append, copy, clear, len, min, max, ranging over a string. -/
import Derived.Test.YtchikbhlojpolaaGreatAb9
namespace Go.Ab
open Go Go.RowKit

theorem growBy_le (newLen : Nat) : ∀ (r c : Nat), Builtin.growBy newLen r c ≤ max c (newLen + (newLen + 768) / 4)
  | 0, c => by simp [Builtin.growBy]; omega
  | r + 1, c => by
    simp only [Builtin.growBy]
    split
    · omega
    · have := growBy_le newLen r (c + (c + 768) / 4)
      omega
theorem nextcap_le {need c : Nat} (h : c < need) : Builtin.nextslicecap need c ≤ 2 * need + 768 := by
  unfold Builtin.nextslicecap
  split
  · omega
  · split
    · omega
    · have := growBy_le need 4 c
      omega

section
variable {P : Program} {W0 : World} {G : Nat → Option Blk} {μ : Mu} {w : World} {H : AH}

theorem run_firstCells_sl (b o n sz len c : Nat) (l : Loc) (hr : RelG W0 μ w H G) (hl : μ b = some l) {xs : List AV} (h : H.rd (b, o) (n * sz) = some xs) :
    ∃ vs, vs.length = n * sz ∧ VRL μ xs vs ∧ xs.all AV.isCell = true ∧ ∀ w', w'.heap = w.heap → (Builtin.firstCells sz n (.slice (some ⟨l.blk, l.sh + o, none⟩) len c)).run P w' = .ok vs.toArray w' := by
  obtain ⟨vs, h1, h2, h3, h4⟩ := rd_cells hr hl h
  refine ⟨vs, h1, h2, h3, fun w' hw => ?_⟩
  simp only [Builtin.firstCells]
  refine run_loadCells P w' _ _ _ vs h1 fun j v e => ?_
  rw [World.cell?_of_block (w := w) (by rw [hw])]
  exact h4 j v e

/-- What is appended, or copied: its cells, in both. -/
theorem src_spec {y : AV} {u : Value} {n sz : Nat} (hr : RelG W0 μ w H G) (hy : VR μ y u) {xs : List AV} {H' : AH} (h : srcCells sz n y H = some (xs, H')) (hn : ∃ k, srcLen y = some k ∧ n ≤ k) :
    H' = H ∧ ∃ vs, VRL μ xs vs ∧ (xs.all AV.isCell = true) ∧ vs.length = n * sz ∧ ∀ w', w'.heap = w.heap → (Builtin.firstCells sz n u).run P w' = .ok vs.toArray w' := by
  cases hy with
  | str s =>
    simp only [srcCells] at h
    split at h
    case isFalse => simp [fail] at h
    rename_i hsz
    simp only [ret, Option.some.injEq, Prod.mk.injEq] at h
    obtain ⟨rfl, rfl⟩ := h
    obtain ⟨k, hk, hle⟩ := hn
    simp [srcLen] at hk
    refine ⟨rfl, (s.data.toList.map fun b => Value.int .u8 b.toNat).take n, (byteCells_VRL s).take n, ?_, ?_, fun w' _ => ?_⟩
    · have := byteCells_all s
      rw [List.all_eq_true] at this ⊢
      exact fun x hx => this x (List.mem_of_mem_take hx)
    · simp [hsz]; omega
    · simp only [Builtin.firstCells, Sem.run_pure]
      congr 2
      apply Array.ext'
      simp [ByteArray.extract, ByteArray.copySlice]
  | sl0 =>
    simp only [srcCells, ret, Option.some.injEq, Prod.mk.injEq] at h
    obtain ⟨rfl, rfl⟩ := h
    obtain ⟨k, hk, hle⟩ := hn
    simp [srcLen] at hk
    have : n = 0 := by omega
    exact ⟨rfl, [], .nil, rfl, by simp [this], fun w' _ => by simp [Builtin.firstCells]⟩
  | @slX b o len c l hl hc =>
    simp only [srcCells, ldn] at h
    cases hx : H.rd (b, o) (n * sz) with
    | none => simp [hx] at h
    | some ys =>
      simp only [hx, Option.map_some, Option.some.injEq, Prod.mk.injEq] at h
      obtain ⟨rfl, rfl⟩ := h
      obtain ⟨vs, h1, h2, h3, h4⟩ := run_firstCells_sl (P := P) b o n sz len c l hr hl hx
      exact ⟨rfl, vs, h2, h3, h1, h4⟩
  | @slU b o len c l hl h1' h2' h3' h4' =>
    simp only [srcCells, ldn] at h
    cases hx : H.rd (b, o) (n * sz) with
    | none => simp [hx] at h
    | some ys =>
      simp only [hx, Option.map_some, Option.some.injEq, Prod.mk.injEq] at h
      obtain ⟨rfl, rfl⟩ := h
      obtain ⟨vs, h1, h2, h3, h4⟩ := run_firstCells_sl (P := P) b o n sz len c l hr hl hx
      exact ⟨rfl, vs, h2, h3, h1, h4⟩
  | @slX0 b o l a hl =>
    obtain ⟨k, hk, hle⟩ := hn
    simp [srcLen] at hk
    have hn0 : n = 0 := by omega
    subst hn0
    simp only [srcCells, ldn, Nat.zero_mul] at h
    cases hx : H.rd (b, o) 0 with
    | none => simp [hx] at h
    | some ys =>
      simp only [hx, Option.map_some, Option.some.injEq, Prod.mk.injEq] at h
      obtain ⟨rfl, rfl⟩ := h
      obtain ⟨vs, h1, h2, h3, h4⟩ := rd_cells hr hl hx
      have : vs = [] := List.length_eq_zero_iff.1 h1
      subst this
      exact ⟨rfl, [], h2, h3, by simp, fun w' _ => by simp [Builtin.firstCells, loadCells, loadCellsFrom]⟩
  | @slE b o l a hl he =>
    obtain ⟨k, hk, hle⟩ := hn
    simp [srcLen] at hk
    have hn0 : n = 0 := by omega
    subst hn0
    simp only [srcCells, ldn, Nat.zero_mul] at h
    cases hx : H.rd (b, o) 0 with
    | none => simp [hx] at h
    | some ys =>
      simp only [hx, Option.map_some, Option.some.injEq, Prod.mk.injEq] at h
      obtain ⟨rfl, rfl⟩ := h
      obtain ⟨vs, h1, h2, h3, h4⟩ := rd_cells hr hl hx
      have : vs = [] := List.length_eq_zero_iff.1 h1
      subst this
      exact ⟨rfl, [], h2, h3, by simp, fun w' _ => by simp [Builtin.firstCells, loadCells, loadCellsFrom]⟩
  | _ => simp [srcCells, fail] at h

/-- append's own core, in the model's words. -/
def appCore (e : TypeId) (sz sLen sCap n : Nat) (base : Option Addr) (appended : Sem (Array Value)) : Sem Value :=
  if sLen + n ≤ sCap then do
    let new ← appended
    if let some a := base then storeCells (a.add (sLen * sz)) new.toList
    pure (.slice base (sLen + n) sCap)
  else do
    let newCap ← choose (.appendCap (sLen + n) sCap e)
    let old ← Builtin.firstCells sz sLen (.slice base sLen sCap)
    let new ← appended
    let rest := Builtin.zeroCells (← zeroValue e).cells (newCap - (sLen + n))
    pure (.slice (some (← newRow e (old ++ new ++ rest))) (sLen + n) newCap)

theorem cap_ok {need c bytes : Nat} (h : c < need) (hn : need ≤ 4294967296) (hb : bytes ≤ 4096) : ¬ (Builtin.nextslicecap need c * bytes > 2 ^ 48) := by
  have h1 := nextcap_le h
  have : Builtin.nextslicecap need c * bytes ≤ (2 * 4294967296 + 768) * 4096 := Nat.mul_le_mul (by omega) hb
  omega
theorem i64max : IntKind.i64.max = 9223372036854775807 := by decide
/-- append, behind the look at what is appended. -/
def appTail (e : TypeId) (sz sLen sCap n : Nat) (zeros : Bool) (base : Option Addr) (x : Value) (appended : Sem (Array Value)) : Sem Value :=
  let need := sLen + n
  if need ≤ sCap then do
    let new ← appended
    if let some a := base then storeCells (a.add (sLen * sz)) new.toList
    pure (.slice base need sCap)
  else do
    if (need : Int) > IntKind.i64.max ∧ (zeros ∨ (← typeInfo e).bytes = 0) then runtimePanic (.error "growslice: len out of range")
    if Builtin.nextslicecap need sCap * (← typeInfo e).bytes > 2 ^ 48 then (if zeros then runtimePanic (.error "growslice: len out of range") else do
      if !(← Builtin.mayShare sz sLen n base x) then mark .noRoom
      unsupported (.resourceLimit "append: a slice or a string whose bytes no memory bears"))
    let newCap ← choose (.appendCap need sCap e)
    askRoom (newCap * (← typeInfo e).bytes)
    let old ← Builtin.firstCells sz sLen (.slice base sLen sCap)
    let new ← appended
    let rest := Builtin.zeroCells (← zeroValue e).cells (newCap - need)
    pure (.slice (some (← newRow e (old ++ new ++ rest))) need newCap)
theorem appTail_core {e : TypeId} {i : TypeInfo} {sz sLen sCap n : Nat} {zeros : Bool} {base : Option Addr} {x : Value} {app : Sem (Array Value)} (hi : P.info? e = some i)
    (hb : i.bytes ≤ 4096) (_ : 0 < i.bytes) (hk : sLen + n ≤ 4294967296) : (appTail e sz sLen sCap n zeros base x app).run P w = (appCore e sz sLen sCap n base app).run P w := by
  unfold appTail appCore
  by_cases hc : sLen + n ≤ sCap
  · simp only [if_pos hc]
  · simp only [if_neg hc]
    have h1 : ¬ (((sLen + n : Nat) : Int) > IntKind.i64.max ∧ (zeros = true ∨ i.bytes = 0)) := by rw [i64max]; omega
    have h2 := cap_ok (bytes := i.bytes) (show sCap < sLen + n by omega) hk hb
    simp only [Sem.run_bind, run_typeInfo hi, Result.andThen_ok, if_neg h1, if_neg h2, Sem.run_pure]
    simp
theorem run_append_src {t u e ty : TypeId} {d : TypeDesc} {sz bytes sLen sCap k : Nat} {base : Option Addr} {x : Value} (he : elemSz P t = some (e, sz, bytes)) (hu : P.underlying u = some d)
    (hb : bytes ≤ 4096) (hb0 : 0 < bytes) (hk : sLen + k ≤ 4294967296) (hd : ∀ q, d ≠ .int q) (hl : (Builtin.lenOf x).run P w = .ok k w) :
    (Builtin.append_ #[t, u] ty #[.slice base sLen sCap, x]).run P w = (appCore e sz sLen sCap k base (Builtin.firstCells sz k x)).run P w := by
  obtain ⟨hut, hsz, i, hi, _, hib⟩ := elemSz_spec he
  rw [← appTail_core (zeros := false) (x := x) hi (by omega) (by omega) hk]
  have : (Builtin.append_ #[t, u] ty #[.slice base sLen sCap, x]).run P w = (appTail e sz sLen sCap k false base x (Builtin.firstCells sz k x)).run P w := by
    simp only [Builtin.append_, List.getElem?_toArray, List.getElem?_cons_zero, List.getElem?_cons_succ, Sem.run_bind, run_underlying hut, Result.andThen_ok, run_sizeOf hsz, run_underlying hu, Sem.run_pure]
    cases d <;> first | exact absurd rfl (hd _) | skip
    all_goals
      refine Eq.trans (b := Sem.run P (Builtin.lenOf x >>= fun k => appTail e sz sLen sCap k false base x (Builtin.firstCells sz k x)) w) rfl ?_
      rw [Sem.run_bind, hl, Result.andThen_ok]
  exact this
theorem run_append_zero {t u e ty : TypeId} {sz bytes sLen sCap k : Nat} {q q' : IntKind} {base : Option Addr} {z : Value} (he : elemSz P t = some (e, sz, bytes)) (hu : P.underlying u = some (.int q))
    (hb : bytes ≤ 4096) (hb0 : 0 < bytes) (hk : sLen + k ≤ 4294967296) (hz : ∀ w, (zeroValue e).run P w = .ok z w) (hzs : z.cells.size = sz) :
    (Builtin.append_ #[t, u] ty #[.slice base sLen sCap, .int q' (k : Int)]).run P w = (appCore e sz sLen sCap k base (pure (Builtin.zeroCells z.cells k))).run P w := by
  obtain ⟨hut, hsz, i, hi, _, hib⟩ := elemSz_spec he
  have happ : ∀ w, (if k * sz = 0 then pure #[] else do pure (Builtin.zeroCells (← zeroValue e).cells k) : Sem (Array Value)).run P w = (pure (Builtin.zeroCells z.cells k) : Sem (Array Value)).run P w := by
    intro w
    by_cases h0 : k * sz = 0
    · rw [if_pos h0]
      have : Builtin.zeroCells z.cells k = #[] := by
        unfold Builtin.zeroCells
        rw [hzs, h0, show Array.range 0 = #[] from rfl]; simp
      rw [this]
    · rw [if_neg h0]
      simp [hz]
  have hcore : (appCore e sz sLen sCap k base (if k * sz = 0 then pure #[] else do pure (Builtin.zeroCells (← zeroValue e).cells k))).run P w = (appCore e sz sLen sCap k base (pure (Builtin.zeroCells z.cells k))).run P w := by
    unfold appCore
    by_cases hc : sLen + k ≤ sCap
    · simp only [if_pos hc, Sem.run_bind, happ]
    · simp only [if_neg hc, Sem.run_bind, happ]
  rw [← hcore, ← appTail_core (zeros := true) (x := .int q' (k : Int)) hi (by omega) (by omega) hk]
  have w1 : IntKind.i64.wrap (k : Int) = k := by simp [IntKind.wrap, IntKind.bits, IntKind.signed]; omega
  have h1 : ¬ ((k : Int) < 0) := by omega
  have h2 : ¬ ((k : Int) * (i.bytes : Int) > 2 ^ 48) := by
    have : (k : Int) * (i.bytes : Int) ≤ 4294967296 * 4096 := Int.mul_le_mul (by omega) (by omega) (by omega) (by omega)
    omega
  simp only [Builtin.append_, List.getElem?_toArray, List.getElem?_cons_zero, List.getElem?_cons_succ, Sem.run_bind, run_underlying hut, Result.andThen_ok, run_sizeOf hsz, run_underlying hu, Sem.run_pure,
    if_true, asInt, asIntOf, w1, if_neg h1, run_typeInfo hi, if_neg h2, Int.toNat_natCast, appTail, true_or, and_true, Bool.not_true, Bool.false_eq_true, if_false]
  rfl

theorem appCells_none {esz bytes len k : Nat} {cap : Option Nat} {new : List AV} (h : k ≠ 0) : appCells esz bytes (.sl none len cap) k new =
    if len + k ≤ 4294967296 ∧ bytes ≤ 4096 ∧ 0 < bytes ∧ 0 < esz ∧ new.length = k * esz ∧ new.all AV.isCell = true then bnd (Ab.alc new esz true) fun b => Ab.ret (.sl (some (b, 0)) (len + k) none) else Ab.fail := by
  simp only [appCells, if_neg h]
theorem appCells_some {esz bytes len k c : Nat} {r : Ref} {new : List AV} (h : k ≠ 0) : appCells esz bytes (.sl (some r) len (some c)) k new =
    if len + k ≤ 4294967296 ∧ bytes ≤ 4096 ∧ 0 < bytes ∧ 0 < esz ∧ new.length = k * esz ∧ new.all AV.isCell = true then
      if len + k ≤ c then bnd (Ab.stn (r.1, r.2 + len * esz) new) fun _ => Ab.ret (.sl (some r) (len + k) (some c))
      else bnd (ldn r (len * esz)) fun old => bnd (Ab.alc (old ++ new) esz true) fun b => Ab.ret (.sl (some (b, 0)) (len + k) none)
    else Ab.fail := by
  simp only [appCells, if_neg h]
theorem appCells_unk {esz bytes len k : Nat} {r : Ref} {new : List AV} {H : AH} (h : k ≠ 0) : appCells esz bytes (.sl (some r) len none) k new H =
    if len + k ≤ 4294967296 ∧ bytes ≤ 4096 ∧ 0 < bytes ∧ 0 < esz ∧ new.length = k * esz ∧ new.all AV.isCell = true then
        match H.blk? r.1 with
        | some (cs, es, g, own) =>
          if es = esz ∧ r.2 + len * esz ≤ cs.length then
            if r.2 + (len + k) * esz ≤ cs.length then
              (bnd (Ab.stn (r.1, r.2 + len * esz) new) fun _ => Ab.ret (.sl (some r) (len + k) none)) H
            else if g = true ∧ own = true then
              (bnd (Ab.kil r.1) fun _ => bnd (Ab.alc ((cs.drop r.2).take (len * esz) ++ new) esz true) fun b => Ab.ret (.sl (some (b, 0)) (len + k) none)) H
            else none
          else none
        | none => none
    else none := by
  simp only [appCells, if_neg h]
  split <;> rfl

/-- append into a new row: of memory as it is, but for blocks that are forgotten. -/
theorem sim_newRow {H' : AH} {cs : List AV} {vs : List Value} {es len c : Nat} {el : TypeId} (hr : RelG W0 μ w H' G) (hv : VRL μ cs vs) (hall : cs.all AV.isCell = true) (hl : len * es = cs.length) (hle : len ≤ c)
    {z : Value} (hz : ∀ w, (zeroValue el).run P w = .ok z w) (hzs : z.cells.size = es) {s : Sem Value}
    (hs : s.run P w = ((do
      let newCap ← (pure c : Sem Nat)
      let rest := Builtin.zeroCells (← zeroValue el).cells (newCap - len)
      pure (.slice (some (← newRow el (vs.toArray ++ rest))) len newCap)) : Sem Value).run P w) :
    Sim P W0 G μ w H' VR (bnd (Ab.alc cs es true) fun b => Ab.ret (.sl (some (b, 0)) len none)) s := by
  have h := Sim.alc (P := P) (es := es) (g := true) (el := el) (rest := (Builtin.zeroCells z.cells (c - len)).toList) hr hv hall
  have hrl : (Builtin.zeroCells z.cells (c - len)).toList.length = (c - len) * es := by simp [size_zeroCells, hzs]
  have harr : (vs ++ (Builtin.zeroCells z.cells (c - len)).toList).toArray = vs.toArray ++ Builtin.zeroCells z.cells (c - len) := by
    apply Array.ext'; simp
  refine Sim.run (s' := (do let a ← newRow el (vs ++ (Builtin.zeroCells z.cells (c - len)).toList).toArray; pure (.slice (some a) len c))) ?_ ?_
  · rw [hs, harr]
    simp [hz]
  · refine Sim.bind h fun b a μ' w' H1 _ hr' hm => ?_
    refine Sim.ret (b := .slice (some a) len c) (by simp) hr' ?_
    refine Sim.slOf hm hl ?_ hle
    have := hv.length
    rw [hrl, ← this, ← hl, ← Nat.add_mul]
    congr 1; omega

theorem sim_appCells {e : TypeId} {sz bytes k : Nat} {x : AV} {base : Option Addr} {sLen sCap : Nat} {new : List AV} {nv : List Value} {A : Sem (Array Value)} (hr : RelG W0 μ w H G)
    (hx : VR μ x (.slice base sLen sCap)) (hn : VRL μ new nv) (hnl : nv.length = k * sz) (hA : ∀ w', w'.heap = w.heap → A.run P w' = .ok nv.toArray w')
    {z : Value} (hz : ∀ w, (zeroValue e).run P w = .ok z w) (hzs : z.cells.size = sz) :
    Sim P W0 G μ w H VR (appCells sz bytes x k new) (appCore e sz sLen sCap k base A) := by
  have hfit : sLen ≤ sCap := by cases hx <;> omega
  have hnn := hn.length
  by_cases hk : k = 0
  · subst hk
    have hnv : nv = [] := List.length_eq_zero_iff.1 (by simpa using hnl)
    subst hnv
    have happ : appCells sz bytes x 0 new = Ab.ret x := by cases hx <;> simp [appCells]
    rw [happ]
    refine Sim.ret (b := .slice base sLen sCap) ?_ hr hx
    unfold appCore
    rw [if_pos (by omega)]
    simp only [Sem.run_bind, hA w rfl, Result.andThen_ok]
    cases base <;> simp [storeCells]
  · -- a new row
    have hrealloc : ¬ (sLen + k ≤ sCap) → ∀ (H' : AH) (old : List AV) (ov : List Value), RelG W0 μ w H' G → VRL μ old ov → old.all AV.isCell = true → new.all AV.isCell = true → ov.length = sLen * sz →
        (∀ w', w'.heap = w.heap → (Builtin.firstCells sz sLen (.slice base sLen sCap)).run P w' = .ok ov.toArray w') →
        Sim P W0 G μ w H' VR (bnd (Ab.alc (old ++ new) sz true) fun b => Ab.ret (.sl (some (b, 0)) (sLen + k) none)) (appCore e sz sLen sCap k base A) := by
      intro hc H' old ov hr' ho hoall hnall hol hold
      obtain ⟨c, hcap, hle⟩ := run_capDraw (P := P) (w := w) (need := sLen + k) (old := sCap) (el := e)
      have hs := hr'.same (same_drew w)
      intro a H2 ea
      obtain ⟨b, w', μ', h1, h2⟩ := sim_newRow (P := P) (el := e) (c := c) (len := sLen + k) (es := sz) (s := do
          let newCap ← (pure c : Sem Nat)
          let rest := Builtin.zeroCells (← zeroValue e).cells (newCap - (sLen + k))
          pure (.slice (some (← newRow e ((ov ++ nv).toArray ++ rest))) (sLen + k) newCap)) hs (ho.append hn) (by simp [List.all_append, hoall, hnall])
          (by have := ho.length; simp only [List.length_append]; rw [this, hol, hnn, hnl, Nat.add_mul]) hle hz hzs rfl a H2 ea
      refine ⟨b, w', μ', ?_, h2⟩
      rw [← h1]
      unfold appCore
      rw [if_neg hc]
      simp only [Sem.run_bind, hcap, Result.andThen_ok, hold w.drew rfl, hA w.drew rfl, Sem.run_pure]
      simp
    have hstore : ∀ (b o : Nat) (l : Loc), μ b = some l → base = some ⟨l.blk, l.sh + o, none⟩ → sLen + k ≤ sCap → ∀ (y : AV), VR μ y (.slice base (sLen + k) sCap) →
        Sim P W0 G μ w H VR (bnd (Ab.stn (b, o + sLen * sz) new) fun _ => Ab.ret y) (appCore e sz sLen sCap k base A) := by
      intro b o l hl hb hc y hy
      subst hb
      refine Sim.run (s' := (storeCells ⟨l.blk, l.sh + (o + sLen * sz), none⟩ nv >>= fun _ => pure (.slice (some ⟨l.blk, l.sh + o, none⟩) (sLen + k) sCap))) ?_ ?_
      · unfold appCore
        rw [if_pos hc]
        simp only [Sem.run_bind, hA w rfl, Result.andThen_ok, add_none, Nat.add_assoc]
      · exact Sim.bind (Sim.stn hr hl hn) fun _ _ μ' w' H' hlx hr' _ => Sim.ret (b := .slice _ (sLen + k) sCap) (by simp) hr' (hy.mono hlx.le)
    cases x with
    | sl a len cap =>
      cases a with
      | none =>
        rw [appCells_none hk]
        cases hx
        refine Sim.ite fun hc => ?_
        exact hrealloc (by omega) H [] [] hr .nil rfl hc.2.2.2.2.2 (by simp) (fun w' _ => by simp [Builtin.firstCells])
      | some r =>
        obtain ⟨b, o⟩ := r
        cases cap with
        | some c =>
          rw [appCells_some hk]
          refine Sim.ite fun hcond => ?_
          cases hx with
          | @slX _ _ _ _ l hl hc =>
            by_cases hcc : sLen + k ≤ sCap
            · rw [if_pos hcc]
              exact hstore b o l hl rfl hcc _ (.slX hl hcc)
            · rw [if_neg hcc]
              intro a H2 ea
              simp only [bnd, ldn] at ea
              cases hrd : H.rd (b, o) (sLen * sz) with
              | none => simp [hrd] at ea
              | some ys =>
                simp only [hrd, Option.map_some] at ea
                obtain ⟨vs, h1, h2, h3, h4⟩ := run_firstCells_sl (P := P) b o sLen sz sLen sCap l hr hl hrd
                exact hrealloc hcc H ys vs hr h2 h3 hcond.2.2.2.2.2 h1 h4 a H2 ea
          | @slX0 _ _ l _ hl =>
            rw [if_neg (by omega)]
            intro a H2 ea
            simp only [bnd, ldn, Nat.zero_mul] at ea
            cases hrd : H.rd (b, o) 0 with
            | none => simp [hrd] at ea
            | some ys =>
              simp only [hrd, Option.map_some] at ea
              obtain ⟨vs, h1, h2, h3, h4⟩ := rd_cells hr hl hrd
              have : vs = [] := List.length_eq_zero_iff.1 h1
              subst this
              exact hrealloc (by omega) H ys [] hr h2 h3 hcond.2.2.2.2.2 (by simp) (fun w' _ => by simp [Builtin.firstCells, loadCells, loadCellsFrom]) a H2 ea
        | none =>
          intro a H2 ea
          rw [appCells_unk hk] at ea
          split at ea
          · rename_i hcond
            cases hbq : H.blk? b with
            | none => simp only [hbq] at ea; cases ea
            | some q =>
              obtain ⟨cs, es, g, own⟩ := q
              simp only [hbq] at ea
              have hbk := blk?_inv hbq
              obtain ⟨l, a', c', hl, hveq, hrow, f1, f2, f3, f4⟩ := slU_facts hr hx hbk
              cases hveq
              split at ea
              · rename_i hc1
                obtain ⟨rfl, hc1⟩ := hc1
                have hes := hrow.es_
                have hext := hrow.len
                have hpos : 0 < es := hcond.2.2.2.1
                have hmul : (sLen + k) * es = sLen * es + k * es := Nat.add_mul _ _ _
                have hkm : 0 < k * es := Nat.mul_pos (by omega) hpos
                split at ea
                · rename_i hc2
                  have hcc : sLen + k ≤ sCap := by
                    have : (sLen + k) * es ≤ sCap * es := by omega
                    exact Nat.le_of_mul_le_mul_right this hpos
                  rcases f4 with ⟨rfl, f5⟩ | ⟨f5, f6⟩
                  · exact hstore b o l hl rfl hcc _ (.slU hl (by rw [hes, ← hext]; exact hc2) (by rw [hes, ← hext]; exact f1) (by rw [hes]; exact f5) hcc) a H2 ea
                  · omega
                · rename_i hc2
                  split at ea
                  · rename_i hgo
                    obtain ⟨rfl, rfl⟩ := hgo
                    simp only [bnd, Ab.kil] at ea
                    -- what is read of the old block
                    have hrd : H.rd (b, o) (sLen * es) = some ((cs.drop o).take (sLen * es)) := by simp [AH.rd, hbk]; omega
                    by_cases hcc : sLen + k ≤ sCap
                    · -- in the block's own room
                      rcases f4 with ⟨rfl, f5⟩ | ⟨f5, f6⟩
                      · obtain ⟨C, el, fz, k1, k2, k3, k4⟩ := hrow.at_
                        have hft := hrow.fits
                        have hcm : (sLen + k) * es ≤ sCap * es := Nat.mul_le_mul_right _ hcc
                        obtain ⟨w', C', r1, ho, hs, hw⟩ := run_storeCells (P := P) (k := l.blk) (o := l.sh + o + sLen * es) (el := el) (fz := fz) nv 0 w C k1 (by omega)
                          (fun j p q => k4 rfl j (by omega)) (fun v hm => by
                            obtain ⟨i, hi⟩ := List.getElem?_of_mem hm
                            have hil : i < new.length := by
                              rcases Nat.lt_or_ge i nv.length with h' | h'
                              · omega
                              · simp [List.getElem?_eq_none h'] at hi
                            obtain ⟨v', hv', rr⟩ := hn.get (x := new[i]) (i := i) (by simp [hil])
                            rw [hi] at hv'; cases hv'
                            have := rr.oneCell (by have := hcond.2.2.2.2.2; rw [List.all_eq_true] at this; exact this _ (List.getElem_mem hil))
                            exact ⟨this.2.1, this.2.2⟩)
                        simp only [Ab.alc, Ab.ret, Option.some.injEq, Prod.mk.injEq] at ea
                        obtain ⟨rfl, rfl⟩ := ea
                        have hxl : ((cs.drop o).take (sLen * es) ++ new).length = (sLen + k) * es := by simp; omega
                        have hfr : μ H.nx = none := hr.rel.fresh _ (Nat.le_refl _)
                        obtain ⟨g1, g2⟩ := hr.rel.grow (o := o) (cs' := (cs.drop o).take (sLen * es) ++ new) (plus_some hbk) hl k1 ho hs (fun j hj => by rw [hw, if_neg (by omega)]) (μ' := muSet μ H.nx { blk := l.blk, sh := l.sh + o, ext := ((cs.drop o).take (sLen * es) ++ new).length, top := l.top, es := es }) rfl
                          (by rw [hxl]; omega) (fun i y hy => by
                            by_cases hi : i < sLen * es
                            · rw [List.getElem?_append_left (by simp; omega), List.getElem?_take, if_pos hi, List.getElem?_drop] at hy
                              obtain ⟨q1, v, q2, q3⟩ := k3 _ _ hy
                              refine ⟨q1, v, ?_, q3.mono (muSet_le hfr)⟩
                              rw [hw, if_neg (by omega)]
                              simpa [Nat.add_assoc] using q2
                            · rw [List.getElem?_append_right (by simp; omega)] at hy
                              have hlen0 : ((cs.drop o).take (sLen * es)).length = sLen * es := by simp; omega
                              rw [hlen0] at hy
                              obtain ⟨v, q2, q3⟩ := hn.get hy
                              refine ⟨by have := hcond.2.2.2.2.2; rw [List.all_eq_true] at this; exact this _ (List.mem_of_getElem? hy), v, ?_, q3.mono (muSet_le hfr)⟩
                              have hiv : i - sLen * es < nv.length := by
                                rcases Nat.lt_or_ge (i - sLen * es) nv.length with h' | h'
                                · exact h'
                                · simp [List.getElem?_eq_none h'] at q2
                              rw [hw, if_pos (by omega), ← q2]
                              congr 1; omega)
                        refine ⟨.slice (some ⟨l.blk, l.sh + o, none⟩) (sLen + k) sCap, w', _, ?_, ⟨g2, fun i hi => by simp only [muSet]; rw [if_neg (by omega)], by simp only [AH.set]; omega⟩, ⟨g1.drop (fun i y hy => ?_) (Nat.le_refl _), fun i hi => ?_⟩, ?_⟩
                        · unfold appCore
                          rw [if_pos hcc]
                          simp only [Sem.run_bind, hA w rfl, Result.andThen_ok, add_none, r1, Sem.run_pure]
                        · simp only [AH.plus, AH.set] at hy ⊢
                          by_cases e1 : i = H.nx
                          · simpa [e1] using hy
                          · by_cases e2 : i = b
                            · subst e2; simp [e1, hr.dis i (by simp [hbk])] at hy
                            · simpa [e1, e2] using hy
                        · simp only [AH.set] at hi
                          by_cases e1 : i = H.nx
                          · subst e1; exact hr.gnone (Nat.le_refl _)
                          · by_cases e2 : i = b
                            · subst e2; exact hr.dis _ (by simp [hbk])
                            · simp [e1, e2] at hi; exact hr.dis _ hi
                        · have := VR.slU (μ := muSet μ H.nx { blk := l.blk, sh := l.sh + o, ext := ((cs.drop o).take (sLen * es) ++ new).length, top := l.top, es := es }) (b := H.nx) (o := 0) (len := sLen + k) (c := sCap) (l := { blk := l.blk, sh := l.sh + o, ext := ((cs.drop o).take (sLen * es) ++ new).length, top := l.top, es := es }) (by simp [muSet])
                            (by dsimp only; rw [hxl]; omega) (by dsimp only; rw [hxl]; omega) (by dsimp only; omega) hcc
                          simpa [AH.set] using this
                      · omega
                    · -- elsewhere
                      have hr' : RelG W0 μ w (H.set b none) G := Sim.kil hr hbk
                      have hrd2 : ∃ vs, vs.length = sLen * es ∧ VRL μ ((cs.drop o).take (sLen * es)) vs ∧ ((cs.drop o).take (sLen * es)).all AV.isCell = true ∧
                          ∀ w', w'.heap = w.heap → (Builtin.firstCells es sLen (.slice (some a') sLen sCap)).run P w' = .ok vs.toArray w' := by
                        rcases f4 with ⟨rfl, f5⟩ | ⟨f5, f6⟩
                        · exact run_firstCells_sl (P := P) b o sLen es sLen sCap l hr hl hrd
                        · subst f5
                          exact ⟨[], by simp, by simpa using VRL.nil, by simp, fun w' _ => by simp [Builtin.firstCells, loadCells, loadCellsFrom]⟩
                      obtain ⟨vs, h1, h2, h3, h4⟩ := hrd2
                      obtain ⟨y, w', μ', q1, q2, q3, q4⟩ := hrealloc hcc (H.set b none) _ vs hr' h2 h3 hcond.2.2.2.2.2 h1 h4 a H2 ea
                      exact ⟨y, w', μ', q1, q2, q3, q4⟩
                  · cases ea
              · cases ea
          · cases ea
    | _ => cases hx
end
end Go.Ab
