/- The abstract machine: its steps stand for the model's: every operation that does not call a function. -/
import Derived.Test.YtchikbhlojpolaaGreatAb10
namespace Go.Ab
open Go Go.RowKit

section
variable {P : Program} {W0 : World} {G : Nat → Option Blk} {μ : Mu} {w : World} {H : AH}

theorem run_lenOf {y : AV} {u : Value} {k : Nat} (hy : VR μ y u) (h : srcLen y = some k) : (Builtin.lenOf u).run P w = .ok k w := by
  cases hy <;> simp [srcLen] at h <;> subst h <;> simp [Builtin.lenOf]
theorem VR.sl_inv {x : AV} {v : Value} (h : VR μ x v) (hx : ∃ a n c, x = .sl a n c) : ∃ b n c, v = .slice b n c := by
  obtain ⟨a, n, c, rfl⟩ := hx
  cases h <;> exact ⟨_, _, _, rfl⟩
theorem str_not_int {d : TypeDesc} {q : IntKind} (h : d ≠ .int q) : d ≠ .int q := h

theorem sim_app {t u ty e : TypeId} {sz bytes : Nat} {d : TypeDesc} {x y z : AV} {vx vy : Value} (hr : RelG W0 μ w H G) (hx : VR μ x vx) (hy : VR μ y vy) (he : elemSz P t = some (e, sz, bytes))
    (hu : P.underlying u = some d) (hd : ∀ q, d ≠ .int q) (hz : zeroOf P e = some z) (hzl : z.cells.length = sz) :
    Sim P W0 G μ w H VR (app sz bytes x y) (Builtin.append_ #[t, u] ty #[vx, vy]) := by
  unfold app
  refine Sim.need fun k hk => ?_
  obtain ⟨zv, k1, k2, k3, k4⟩ := zeroOf_spec (μ := μ) hz
  have hzv : zv.cells.size = sz := by have := k4.length; simp only [Array.length_toList] at this; omega
  intro a H2 ea
  simp only [bnd] at ea
  split at ea
  · rename_i new H1 hsrc
    obtain ⟨rfl, nv, f1, f2, f3, f4⟩ := src_spec (P := P) hr hy hsrc ⟨k, hk, Nat.le_refl _⟩
    by_cases hxs : ∃ a n c, x = .sl a n c
    · obtain ⟨base, sLen, sCap, rfl⟩ := hx.sl_inv hxs
      obtain ⟨b, w', μ', h1, h2⟩ := sim_appCells (e := e) (bytes := bytes) hr hx f1 f3 f4 k1 hzv a H2 ea
      refine ⟨b, w', μ', ?_, h2⟩
      rw [← h1]
      have hc : sLen + k ≤ 4294967296 ∧ bytes ≤ 4096 ∧ 0 < bytes ∨ k = 0 := by
        by_cases hk0 : k = 0
        · exact .inr hk0
        · left
          obtain ⟨p, n, c, rfl⟩ := hxs
          have hn : n = sLen := by cases hx <;> rfl
          subst hn
          cases p with
          | none =>
            rw [appCells_none hk0] at ea
            split at ea
            · rename_i hc; exact ⟨hc.1, hc.2.1, hc.2.2.1⟩
            · cases ea
          | some r =>
            cases c with
            | some c =>
              rw [appCells_some hk0] at ea
              split at ea
              · rename_i hc; exact ⟨hc.1, hc.2.1, hc.2.2.1⟩
              · cases ea
            | none =>
              rw [appCells_unk hk0] at ea
              split at ea
              · rename_i hc; exact ⟨hc.1, hc.2.1, hc.2.2.1⟩
              · cases ea
      rcases hc with ⟨c1, c2, c3⟩ | hk0
      · exact run_append_src he hu c2 c3 c1 hd (run_lenOf hy hk)
      · subst hk0
        have hfit : sLen ≤ sCap := by cases hx <;> omega
        obtain ⟨hut, hsz, i, hi, _, hib⟩ := elemSz_spec he
        have hz0 : Builtin.append_ #[t, u] ty #[.slice base sLen sCap, vy] = Builtin.append_ #[t, u] ty #[.slice base sLen sCap, vy] := rfl
        have : (Builtin.append_ #[t, u] ty #[.slice base sLen sCap, vy]).run P w = (appTail e sz sLen sCap 0 false base vy (Builtin.firstCells sz 0 vy)).run P w := by
          simp only [Builtin.append_, List.getElem?_toArray, List.getElem?_cons_zero, List.getElem?_cons_succ, Sem.run_bind, run_underlying hut, Result.andThen_ok, run_sizeOf hsz, run_underlying hu, Sem.run_pure]
          cases d <;> first | exact absurd rfl (hd _) | skip
          all_goals
            refine Eq.trans (b := Sem.run P (Builtin.lenOf vy >>= fun k => appTail e sz sLen sCap k false base vy (Builtin.firstCells sz k vy)) w) rfl ?_
            rw [Sem.run_bind, run_lenOf hy hk, Result.andThen_ok]
        rw [this]
        unfold appTail appCore
        simp only [Nat.add_zero, if_pos hfit]
    · exfalso
      apply hxs
      cases x <;> simp [appCells, Ab.fail] at ea
      exact ⟨_, _, _, rfl⟩
  · cases ea

theorem rep_zeroCells {z : AV} {zv : Value} (h : VRL μ z.cells zv.cells.toList) (n : Nat) : VRL μ (repCells z.cells n) (Builtin.zeroCells zv.cells n).toList := rep_VRL h n

theorem sim_appZ {t u ty e : TypeId} {sz bytes : Nat} {q : IntKind} {x y z : AV} {vx vy : Value} (hr : RelG W0 μ w H G) (hx : VR μ x vx) (hy : VR μ y vy) (he : elemSz P t = some (e, sz, bytes))
    (hu : P.underlying u = some (.int q)) (hz : zeroOf P e = some z) (hzl : z.cells.length = sz) :
    Sim P W0 G μ w H VR (appZ sz bytes z.cells x y) (Builtin.append_ #[t, u] ty #[vx, vy]) := by
  obtain ⟨zv, k1, k2, k3, k4⟩ := zeroOf_spec (μ := μ) hz
  have hzv : zv.cells.size = sz := by have := k4.length; simp only [Array.length_toList] at this; omega
  cases hy with
  | int k' n =>
    simp only [appZ]
    refine Sim.ite fun hn => ?_
    obtain ⟨k, rfl⟩ := Int.eq_ofNat_of_zero_le hn.1
    simp only [Int.toNat_natCast]
    intro a H2 ea
    by_cases hxs : ∃ a n c, x = .sl a n c
    · obtain ⟨base, sLen, sCap, rfl⟩ := hx.sl_inv hxs
      have hlen : (Builtin.zeroCells zv.cells k).toList.length = k * sz := by simp [size_zeroCells, hzv]
      obtain ⟨b, w', μ', h1, h2⟩ := sim_appCells (P := P) (e := e) (bytes := bytes) (A := pure (Builtin.zeroCells zv.cells k)) hr hx (rep_zeroCells k4 k) hlen (fun w' _ => by simp) k1 hzv a H2 ea
      refine ⟨b, w', μ', ?_, h2⟩
      rw [← h1]
      by_cases hk0 : k = 0
      · subst hk0
        have hfit : sLen ≤ sCap := by cases hx <;> omega
        obtain ⟨hut, hsz, i, hi, _, hib⟩ := elemSz_spec he
        have w1 : IntKind.i64.wrap ((0 : Nat) : Int) = 0 := by decide
        have g1 : ¬ ((0 : Int) < 0) := by omega
        have g2 : ¬ ((0 : Int) * (i.bytes : Int) > 2 ^ 48) := by omega
        have hz0 : Builtin.zeroCells zv.cells 0 = #[] := by unfold Builtin.zeroCells; rw [Nat.zero_mul, show Array.range 0 = #[] from rfl]; simp
        unfold appCore
        rw [if_pos (by omega)]
        simp only [Builtin.append_, List.getElem?_toArray, List.getElem?_cons_zero, List.getElem?_cons_succ, Sem.run_bind, run_underlying hut, Result.andThen_ok, run_sizeOf hsz, run_underlying hu, Sem.run_pure,
          if_true, asInt, asIntOf, w1, if_neg g1, run_typeInfo hi, if_neg g2, Int.toNat_zero, Nat.add_zero, if_pos hfit, Nat.zero_mul, hz0, Bool.not_true, Bool.false_eq_true, if_false]
        rfl
      · have hc : sLen + k ≤ 4294967296 ∧ bytes ≤ 4096 ∧ 0 < bytes := by
          obtain ⟨p, n, c, rfl⟩ := hxs
          have hn : n = sLen := by cases hx <;> rfl
          subst hn
          cases p with
          | none =>
            rw [appCells_none hk0] at ea
            split at ea
            · rename_i hc; exact ⟨hc.1, hc.2.1, hc.2.2.1⟩
            · cases ea
          | some r =>
            cases c with
            | some c =>
              rw [appCells_some hk0] at ea
              split at ea
              · rename_i hc; exact ⟨hc.1, hc.2.1, hc.2.2.1⟩
              · cases ea
            | none =>
              rw [appCells_unk hk0] at ea
              split at ea
              · rename_i hc; exact ⟨hc.1, hc.2.1, hc.2.2.1⟩
              · cases ea
        exact run_append_zero he hu hc.2.1 hc.2.2 hc.1 k1 hzv
    · exfalso
      apply hxs
      cases x <;> simp [appCells, Ab.fail] at ea
      exact ⟨_, _, _, rfl⟩
  | _ => exact Sim.fail

theorem sim_cpy {t u ty e : TypeId} {sz bytes : Nat} {x y : AV} {vx vy : Value} (hr : RelG W0 μ w H G) (hx : VR μ x vx) (hy : VR μ y vy) (he : elemSz P t = some (e, sz, bytes)) :
    Sim P W0 G μ w H VR (cpy sz x y) (Builtin.copy_ #[t, u] ty #[vx, vy]) := by
  obtain ⟨hut, hsz, _⟩ := elemSz_spec he
  by_cases hxs : ∃ a n c, x = .sl a n c
  · obtain ⟨a, len, cap, rfl⟩ := hxs
    simp only [cpy]
    refine Sim.need fun k hk => ?_
    intro r H2 ea
    simp only [bnd] at ea
    split at ea
    · rename_i new H1 hsrc
      obtain ⟨rfl, nv, f1, f2, f3, f4⟩ := src_spec (P := P) hr hy hsrc ⟨k, hk, Nat.min_le_left _ _⟩
      obtain ⟨base, dLen, dCap, rfl⟩ := hx.sl_inv ⟨_, _, _, rfl⟩
      have hn : len = dLen := by cases hx <;> rfl
      subst hn
      have hrun : ∀ (s : Sem Unit), (match base with | some a => storeCells a nv | none => pure ()) = s → (Builtin.copy_ #[t, u] ty #[.slice base len dCap, vy]).run P w = (s >>= fun _ => pure (goInt (min k len : Nat))).run P w := by
        intro s hs
        subst hs
        simp only [Builtin.copy_, List.getElem?_toArray, List.getElem?_cons_zero, List.getElem?_cons_succ, Sem.run_bind, run_underlying hut, Result.andThen_ok, run_lenOf hy hk, run_sizeOf hsz]
        rw [show Nat.min k len = min k len from rfl, f4 w rfl]
        simp only [Result.andThen_ok]
        cases base <;> simp
      cases a with
      | none =>
        cases hx
        simp only [Ab.ret, Option.some.injEq, Prod.mk.injEq] at ea
        obtain ⟨rfl, rfl⟩ := ea
        exact ⟨_, w, μ, by rw [hrun _ rfl]; simp; rfl, Lx.refl _ _, hr, .int _ _⟩
      | some rf =>
        obtain ⟨b, o⟩ := rf
        simp only at ea
        split at ea
        · rename_i h0
          simp only [Ab.ret, Option.some.injEq, Prod.mk.injEq] at ea
          obtain ⟨rfl, rfl⟩ := ea
          rw [h0, Nat.zero_mul] at f3
          have hnv : nv = [] := List.length_eq_zero_iff.1 f3
          subst hnv
          refine ⟨.int .i64 0, w, μ, ?_, Lx.refl _ _, hr, .int _ _⟩
          rw [hrun _ rfl, h0]
          cases base <;> simp [storeCells, goInt]
        · rename_i h0
          have hst : ∀ l, μ b = some l → base = some ⟨l.blk, l.sh + o, none⟩ → ∃ b_1 w' μ', (Builtin.copy_ #[t, u] ty #[.slice base len dCap, vy]).run P w = .ok b_1 w' ∧ Lx H1.nx μ H2.nx μ' ∧ RelG W0 μ' w' H2 G ∧ VR μ' r b_1 := by
            intro l hl hb
            subst hb
            have h := Sim.stn (P := P) (o := o) hr hl f1
            simp only [bnd] at ea
            split at ea
            · rename_i q H3 hq
              simp only [Ab.ret, Option.some.injEq, Prod.mk.injEq] at ea
              obtain ⟨rfl, rfl⟩ := ea
              obtain ⟨_, w', μ', h1, h2, h3, _⟩ := h q H3 hq
              refine ⟨.int .i64 (min k len : Nat), w', μ', ?_, h2, h3, .int _ _⟩
              rw [hrun _ rfl]
              simp only [Sem.run_bind, h1, Result.andThen_ok, Sem.run_pure, goInt]
            · cases ea
          cases hx with
          | slX hl hc => exact hst _ hl rfl
          | slU hl g1 g2 g3 g4 => exact hst _ hl rfl
          | slX0 hl => exact absurd (Nat.min_zero k) h0
          | slE hl he => exact absurd (Nat.min_zero k) h0
    · cases ea
  · cases x <;> first | exact Sim.fail | exact absurd ⟨_, _, _, rfl⟩ hxs

theorem sim_clr {t ty e : TypeId} {sz bytes : Nat} {x z : AV} {vx : Value} (hr : RelG W0 μ w H G) (hx : VR μ x vx) (he : elemSz P t = some (e, sz, bytes)) (hz : zeroOf P e = some z) :
    Sim P W0 G μ w H VR (clr z.cells x) (Builtin.clear_ #[t] ty #[vx]) := by
  obtain ⟨hut, hsz, _⟩ := elemSz_spec he
  obtain ⟨zv, k1, k2, k3, k4⟩ := zeroOf_spec (μ := μ) hz
  have hst : ∀ (b o n c : Nat) (cap : Option Nat) (l : Loc), μ b = some l → Sim P W0 G μ w H VR (clr z.cells (.sl (some (b, o)) n cap)) (Builtin.clear_ #[t] ty #[.slice (some ⟨l.blk, l.sh + o, none⟩) n c]) := by
    intro b o n c cap l hl
    simp only [clr]
    by_cases h0 : n = 0
    · rw [if_pos h0]
      subst h0
      refine Sim.ret (b := .tuple #[]) ?_ hr (.tup .nil)
      simp [Builtin.clear_, run_underlying hut]
    · rw [if_neg h0]
      have hrun : (Builtin.clear_ #[t] ty #[.slice (some ⟨l.blk, l.sh + o, none⟩) n c]).run P w = (storeCells ⟨l.blk, l.sh + o, none⟩ (Builtin.zeroCells zv.cells n).toList >>= fun _ => pure (.tuple #[])).run P w := by
        obtain ⟨m, rfl⟩ : ∃ m, n = m + 1 := ⟨n - 1, by omega⟩
        simp [Builtin.clear_, run_underlying hut, k1]
      refine Sim.run hrun (Sim.bind (Sim.stn hr hl (rep_zeroCells k4 n)) fun _ _ μ' w' H' _ hr' _ => ?_)
      exact Sim.ret (b := .tuple #[]) (by simp) hr' (.tup .nil)
  cases hx with
  | sl0 =>
    refine Sim.ret (b := .tuple #[]) ?_ hr (.tup .nil)
    simp [Builtin.clear_, run_underlying hut]
  | slX hl hc => exact hst _ _ _ _ _ _ hl
  | slU hl g1 g2 g3 g4 => exact hst _ _ _ _ _ _ hl
  | slX0 hl =>
    refine Sim.ret (b := .tuple #[]) ?_ hr (.tup .nil)
    simp [Builtin.clear_, run_underlying hut]
  | slE hl he =>
    refine Sim.ret (b := .tuple #[]) ?_ hr (.tup .nil)
    simp [Builtin.clear_, run_underlying hut]
  | _ => exact Sim.fail

theorem mn_run : ∀ (l : List AV) (vs : List Value) (x r : AV) (v : Value), VRL μ l vs → VR μ x v →
    l.foldl (fun a y => match a, y with | some (.int k a), .int _ y => some (.int k (if y < a then y else a)) | _, _ => none) (some x) = some r →
    ∃ u, (vs.foldlM Builtin.min2 v).run P w = .ok u w ∧ VR μ r u
  | [], vs, x, r, v, hl, hx, h => by cases hl; simp at h; subst h; exact ⟨v, by simp, hx⟩
  | y :: l, vs, x, r, v, hl, hx, h => by
    cases hl with
    | cons hy ht =>
      simp only [List.foldl_cons] at h
      have hnone : ∀ l : List AV, l.foldl (fun (a : Option AV) y => match a, y with | some (.int k a), .int _ y => some (.int k (if y < a then y else a)) | _, _ => none) none = none := by
        intro l; induction l with
        | nil => rfl
        | cons a l ih => simpa using ih
      cases hx with
      | int k n =>
        cases hy with
        | int k' m =>
          obtain ⟨u, h1, h2⟩ := mn_run l _ _ r _ ht (.int k (if m < n then m else n)) h
          exact ⟨u, by simp only [List.foldlM_cons, Builtin.min2, Sem.run_bind, Sem.run_pure, Result.andThen_ok]; exact h1, h2⟩
        | _ => simp [hnone] at h
      | _ => simp [hnone] at h
theorem mx_run : ∀ (l : List AV) (vs : List Value) (x r : AV) (v : Value), VRL μ l vs → VR μ x v →
    l.foldl (fun a y => match a, y with | some (.int k a), .int _ y => some (.int k (if y > a then y else a)) | _, _ => none) (some x) = some r →
    ∃ u, (vs.foldlM Builtin.max2 v).run P w = .ok u w ∧ VR μ r u
  | [], vs, x, r, v, hl, hx, h => by cases hl; simp at h; subst h; exact ⟨v, by simp, hx⟩
  | y :: l, vs, x, r, v, hl, hx, h => by
    cases hl with
    | cons hy ht =>
      simp only [List.foldl_cons] at h
      have hnone : ∀ l : List AV, l.foldl (fun (a : Option AV) y => match a, y with | some (.int k a), .int _ y => some (.int k (if y > a then y else a)) | _, _ => none) none = none := by
        intro l; induction l with
        | nil => rfl
        | cons a l ih => simpa using ih
      cases hx with
      | int k n =>
        cases hy with
        | int k' m =>
          obtain ⟨u, h1, h2⟩ := mx_run l _ _ r _ ht (.int k (if m > n then m else n)) h
          exact ⟨u, by simp only [List.foldlM_cons, Builtin.max2, Sem.run_bind, Sem.run_pure, Result.andThen_ok]; exact h1, h2⟩
        | _ => simp [hnone] at h
      | _ => simp [hnone] at h
end
end Go.Ab
