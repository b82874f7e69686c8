/- The abstract machine: its steps stand for the model's: an operation as the code has it. -/
import Derived.Test.YtchikbhlojpolaaGreatAb11
namespace Go.Ab
open Go Go.RowKit

def NR (μ : Mu) (x : AV) (n : Next) : Prop := (∃ v, n = .value v ∧ VR μ x v) ∨ (n = .skip ∧ x = undefA)

/-- Does the operation call a function? -/
def isCall (o : Oper) : Bool :=
  match o.op with
  | .call { callee := .value _, .. } => true
  | _ => false

section
variable {P : Program} {W0 : World} {G : Nat → Option Blk} {μ : Mu} {w : World} {H : AH}

theorem sim_v {m : M AV} {s : Sem Value} (h : Sim P W0 G μ w H VR m s) : Sim P W0 G μ w H NR m (do pure (Next.value (← s))) :=
  Sim.then_ h fun _ b _ _ _ _ hv => ⟨.value b, by simp, .inl ⟨b, rfl, hv⟩⟩
theorem sim_u {m : M AV} {s : Sem Unit} (h : Sim P W0 G μ w H (fun _ y (_ : Unit) => y = undefA) m s) : Sim P W0 G μ w H NR m (do s; pure Next.skip) :=
  Sim.then_ h fun _ _ _ _ _ _ hv => ⟨.skip, by simp, .inr ⟨rfl, hv⟩⟩

theorem sim_rngS {x : AV} {v : Value} {t : TypeId} (hr : RelG W0 μ w H G) (hx : VR μ x v) (ht : P.underlying t = some .string) : Sim P W0 G μ w H VR (rngS x) (Instr.range t v) := by
  cases hx with
  | str s =>
    intro a H' e
    simp only [rngS, Option.some.injEq, Prod.mk.injEq] at e
    obtain ⟨rfl, rfl⟩ := e
    have hfr : μ H.nx = none := hr.rel.fresh _ (Nat.le_refl _)
    obtain ⟨h1, h2⟩ := hr.rel.newIter (new_push w (.stringIter s 0)) rfl
    refine ⟨.pointer (some ⟨w.heap.size, 0, none⟩), { w with heap := w.heap.push (.stringIter s 0) }, muSet μ H.nx { blk := w.heap.size, sh := 0, ext := 0, top := 0, es := 0 }, ?_, ⟨h2, fun i hi => by simp only [muSet]; rw [if_neg (by omega)], by dsimp only; omega⟩, ⟨h1.drop (fun i y hy => ?_) (Nat.le_refl _), fun i hi => ?_⟩, ?_⟩
    · simp [Instr.range, run_underlying ht]
    · simp only [AH.plus] at hy ⊢
      by_cases e1 : i = H.nx
      · simpa [e1] using hy
      · simpa [e1] using hy
    · dsimp only at hi
      by_cases e1 : i = H.nx
      · subst e1; exact hr.gnone (Nat.le_refl _)
      · simp [e1] at hi; exact hr.dis _ hi
    · exact VR.ptr (o := 0) (l := { blk := w.heap.size, sh := 0, ext := 0, top := 0, es := 0 }) (by simp [muSet])
  | _ => exact Sim.fail

theorem sim_nextS {x : AV} {v : Value} {t : TypeId} (hr : RelG W0 μ w H G) (hx : VR μ x v) : Sim P W0 G μ w H VR (nextS x) (Instr.next v true t) := by
  cases hx with
  | @ptr b o l hl =>
    cases o with
    | succ o => exact Sim.fail
    | zero =>
      intro a H' e
      simp only [nextS] at e
      split at e
      · rename_i s pos hb
        obtain ⟨l', hl', k1, k2, k3⟩ := hr.rel.iter _ _ _ (plus_some hb)
        rw [hl] at hl'; cases hl'
        have hobj : (getObj l.blk).run P w = .ok (.stringIter s pos) w := by simp [getObj, Sem.run, k1]
        split at e
        · rename_i hlt
          simp only [Option.some.injEq, Prod.mk.injEq] at e
          obtain ⟨rfl, rfl⟩ := e
          have hset : (setObj l.blk (.stringIter s (pos + (Utf8.decode s pos).2))).run P w = .ok () { w with heap := w.heap.setIfInBounds l.blk (.stringIter s (pos + (Utf8.decode s pos).2)) } := by simp [setObj, Sem.run, k1]
          have honly : Only w { w with heap := w.heap.setIfInBounds l.blk (.stringIter s (pos + (Utf8.decode s pos).2)) } l.blk (.stringIter s (pos + (Utf8.decode s pos).2)) :=
            ⟨rfl, rfl, rfl, by simp, fun j hj => by simp [Array.getElem?_setIfInBounds]; intro h; omega, by simp [lt_of_get? k1]⟩
          have hrel := hr.rel.stepIter (plus_some hb) hl honly
          refine ⟨.tuple #[.bool true, goInt pos, .int .i32 (Utf8.decode s pos).1], _, μ, ?_, ⟨Le.refl _, fun _ _ => rfl, Nat.le_refl _⟩, ⟨hrel.drop (fun i y hy => ?_) (Nat.le_refl _), fun i hi => ?_⟩, .tup (.cons (.bool _) (.cons (.int _ _) (.cons (.int _ _) .nil)))⟩
          · simp only [Instr.next, k3, Nat.zero_add, Sem.run_bind, hobj, Result.andThen_ok, if_pos hlt]
            simp only [hset, Result.andThen_ok, Sem.run_pure]
          · simp only [AH.plus, AH.set] at hy ⊢
            by_cases e1 : i = b
            · simpa [e1] using hy
            · simpa [e1] using hy
          · simp only [AH.set] at hi
            by_cases e1 : i = b
            · subst e1; exact hr.dis _ (by simp [hb])
            · simp [e1] at hi; exact hr.dis _ hi
        · rename_i hlt
          simp only [Option.some.injEq, Prod.mk.injEq] at e
          obtain ⟨rfl, rfl⟩ := e
          refine ⟨.tuple #[.bool false], w, μ, ?_, Lx.refl _ _, hr, .tup (.cons (.bool _) .nil)⟩
          simp only [Instr.next, k3, Nat.zero_add, Sem.run_bind, hobj, Result.andThen_ok, if_neg hlt, Sem.run_pure]
      · cases e
  | _ => exact Sim.fail

theorem opvs_rel {E : Look} {ρ : Operand → Value} (hE : ∀ x y, opv E x = some y → VR μ y (ρ x)) : ∀ (xs : List Operand) (vs : List AV), opvs E xs = some vs → VRL μ vs (xs.map ρ)
  | [], vs, h => by simp [opvs] at h; subst h; exact .nil
  | x :: xs, vs, h => by
    simp only [opvs] at h
    split at h
    · rename_i v vs' h1 h2
      cases h
      exact .cons (hE _ _ h1) (opvs_rel hE xs vs' h2)
    · cases h
theorem opvo_rel {E : Look} {ρ : Operand → Value} (hE : ∀ x y, opv E x = some y → VR μ y (ρ x)) {x : Option Operand} {v : Option AV} (h : opvo E x = some v) : VRO μ v (x.map ρ) := by
  cases x with
  | none => simp [opvo] at h; subst h; exact .none
  | some x =>
    cases hx : opv E x with
    | none => simp [opvo, hx] at h
    | some y => simp [opvo, hx] at h; subst h; exact .some (hE _ _ hx)

theorem sim_builtin {b : Builtin} {ats : Array TypeId} {ty : TypeId} {cs : Array Bool} {vs : List AV} {us : List Value} (hr : RelG W0 μ w H G) (hv : VRL μ vs us) :
    Sim P W0 G μ w H NR (evBuiltin P b ats vs) (Go.builtin b ats ty cs us.toArray) := by
  unfold evBuiltin
  split
  · rename_i x y
    cases hv with
    | @cons _ ux _ _ hx t =>
      cases t with
      | @cons _ uy _ _ hy t =>
        cases t
        refine Sim.need fun tt h0 => Sim.need fun q hq => Sim.need fun u h1 => ?_
        obtain ⟨e, sz, by'⟩ := q
        have key : ∀ {m : M AV}, Sim P W0 G μ w H VR m (Builtin.append_ #[tt, u] ty #[ux, uy]) → Sim P W0 G μ w H NR m (Go.builtin .append ats ty cs #[ux, uy]) := by
          intro m hm
          have hat : Builtin.append_ ats ty #[ux, uy] = Builtin.append_ #[tt, u] ty #[ux, uy] := by
            unfold Builtin.append_
            simp only [h0, h1]
            rfl
          have := sim_v hm
          rw [← hat] at this
          exact this
        split
        · rename_i hu
          refine Sim.need fun z hz => Sim.ite fun hzl => key (sim_appZ hr hx hy hq hu hz hzl)
        · rename_i d hd hu
          refine Sim.need fun z hz => Sim.ite fun hzl => key (sim_app hr hx hy hq hu (fun q e => hd q e) hz hzl)
        · exact Sim.fail
  · rename_i x y
    cases hv with
    | @cons _ ux _ _ hx t =>
      cases t with
      | @cons _ uy _ _ hy t =>
        cases t
        refine Sim.need fun tt h0 => Sim.need fun q hq => ?_
        obtain ⟨e, sz, by'⟩ := q
        have hat : Builtin.copy_ ats ty #[ux, uy] = Builtin.copy_ #[tt, tt] ty #[ux, uy] := by
          unfold Builtin.copy_
          simp only [h0]
          rfl
        have := sim_v (sim_cpy (u := tt) (ty := ty) hr hx hy hq)
        rw [← hat] at this
        exact this
  · rename_i x
    cases hv with
    | @cons _ ux _ _ hx t =>
      cases t
      refine Sim.need fun tt h0 => Sim.need fun q hq => ?_
      obtain ⟨e, sz, by'⟩ := q
      refine Sim.need fun z hz => Sim.ite fun hzl => ?_
      have hat : Builtin.clear_ ats ty #[ux] = Builtin.clear_ #[tt] ty #[ux] := by
        unfold Builtin.clear_
        simp only [h0]
        rfl
      have := sim_v (sim_clr (ty := ty) hr hx hq hz)
      rw [← hat] at this
      exact this
  · rename_i x
    cases hv with
    | @cons _ ux _ _ hx t =>
      cases t
      refine Sim.need fun tt h0 => ?_
      have key : ∀ (r : Value) (y : AV), (Builtin.len_ ats ty #[ux]).run P w = .ok r w → VR μ y r → Sim P W0 G μ w H NR (Ab.ret y) (Go.builtin .len ats ty cs #[ux]) :=
        fun r y h1 h2 => sim_v (Sim.ret h1 hr h2)
      split
      · rename_i e hu
        cases hx <;> first | exact Sim.fail | (exact key _ _ (by simp [Builtin.len_, h0, run_underlying hu]; rfl) (.int _ _))
      · rename_i hu
        cases hx <;> first | exact Sim.fail | (exact key _ _ (by simp [Builtin.len_, h0, run_underlying hu]; rfl) (.int _ _))
      · rename_i n e hu
        exact key (goInt n) _ (by simp [Builtin.len_, h0, run_underlying hu]) (.int _ _)
      · rename_i a hu
        split
        · rename_i n e hu2
          exact key (goInt n) _ (by simp [Builtin.len_, h0, run_underlying hu, run_underlying hu2]) (.int _ _)
        · exact Sim.fail
      · exact Sim.fail
  · rename_i x
    cases hv with
    | @cons _ ux _ _ hx t =>
      cases t
      refine Sim.need fun tt h0 => ?_
      have key : ∀ (r : Value) (y : AV), (Builtin.cap_ ats ty #[ux]).run P w = .ok r w → VR μ y r → Sim P W0 G μ w H NR (Ab.ret y) (Go.builtin .cap ats ty cs #[ux]) :=
        fun r y h1 h2 => sim_v (Sim.ret h1 hr h2)
      split
      · rename_i e hu
        cases hx <;> first | exact Sim.fail | (exact key _ _ (by simp [Builtin.cap_, h0, run_underlying hu]; rfl) (.int _ _))
      · exact Sim.fail
  · refine Sim.need fun r hr' => ?_
    cases hv with
    | nil => simp [mnA] at hr'
    | @cons x ux xs uxs hx t =>
      obtain ⟨u, h1, h2⟩ := mn_run (P := P) (w := w) xs uxs x r ux t hx hr'
      exact sim_v (Sim.ret (s := Builtin.min_ ats ty (ux :: uxs).toArray) (by simpa [Builtin.min_] using h1) hr h2)
  · refine Sim.need fun r hr' => ?_
    cases hv with
    | nil => simp [mxA] at hr'
    | @cons x ux xs uxs hx t =>
      obtain ⟨u, h1, h2⟩ := mx_run (P := P) (w := w) xs uxs x r ux t hx hr'
      exact sim_v (Sim.ret (s := Builtin.max_ ats ty (ux :: uxs).toArray) (by simpa [Builtin.max_] using h1) hr h2)
  · exact Sim.fail

theorem VR.bool_inv {t : Bool} {v : Value} (h : VR μ (.bool t) v) : v = .bool t := by cases h; rfl
theorem VR.ptr_inv {r : Ref} {v : Value} (h : VR μ (.ptr (some r)) v) : ∃ l, μ r.1 = some l ∧ v = .pointer (some ⟨l.blk, l.sh + r.2, none⟩) := by cases h with | ptr h => exact ⟨_, h, rfl⟩
theorem VR.fn_inv {f : FuncId} {cs : List AV} {v : Value} (h : VR μ (.fn f cs) v) : ∃ vs, VRL μ cs vs ∧ v = .func (.func f) #[] ⟨vs⟩ := by cases h with | fn h => exact ⟨_, h, rfl⟩
theorem sim_slX0 {b o : Nat} {l : Loc} {ad : Addr} {lo hi mx : Option AV} {lo' hi' mx' : Option Value} {t e : TypeId} {sz : Nat} (hr : RelG W0 μ w H G)
    (hl : μ b = some l) (hlo : VRO μ lo lo') (hhi : VRO μ hi hi') (hmx : VRO μ mx mx')
    (hg : (mx.isSome && hi.isNone) = false) (ht : P.underlying t = some (.slice e)) (hn : szOf P e = some sz) :
    Sim P W0 G μ w H VR (slS sz (.sl (some (b, o)) 0 (some 0)) lo hi mx) (Instr.sliceAt t (.slice (some ad) 0 0) lo' hi' mx') := by
  rw [slS_some]
  refine Sim.need fun m h1 => Sim.need fun h h2 => Sim.need fun lw h3 => ?_
  have hb := run_bounds (P := P) (w := w) (isSlice := true) hlo hhi hmx hg h1 h2 h3
  have hm : m = 0 := by rcases boundA_le h1 with k | k <;> omega
  have hh : h = 0 := by rcases boundA_le h2 with k | k <;> omega
  have hw : lw = 0 := by rcases boundA_le h3 with k | k <;> omega
  subst hm; subst hh; subst hw
  refine Sim.ret (b := .slice (some ad) 0 0) ?_ hr (by simpa using VR.slX0 hl)
  simp [Instr.sliceAt, run_underlying ht, Instr.slice, hb, run_sizeOf hn]

theorem sim_op {K : Calls?} {E : Look} {a : Act} (hr : RelG W0 μ w H G) (hE : ∀ x y, opv E x = some y → VR μ y (a.eval x)) {o : Oper} (hc : isCall o = false) :
    Sim P W0 G μ w H NR (evOp P K E o) (execOp a.eval o) := by
  obtain ⟨dst, op, ty, pos, aft, grd⟩ := o
  cases op
  case move x =>
    exact Sim.need fun v hv => Sim.ret (b := .value (a.eval x)) (by simp [execOp]) hr (.inl ⟨_, rfl, hE _ _ hv⟩)
  case assign x =>
    exact Sim.need fun v hv => Sim.ret (b := .value (a.eval x)) (by simp [execOp]) hr (.inl ⟨_, rfl, hE _ _ hv⟩)
  case pick c x y =>
    refine Sim.need fun cv hcv => ?_
    have h := hE _ _ hcv
    cases hcc : cv with
    | bool t =>
      subst hcc
      have hav := VR.bool_inv h
      cases t with
      | true => exact Sim.need fun v hv => Sim.ret (b := .value (a.eval x)) (by simp [execOp, asBool, hav]) hr (.inl ⟨_, rfl, hE _ _ hv⟩)
      | false => exact Sim.need fun v hv => Sim.ret (b := .value (a.eval y)) (by simp [execOp, asBool, hav]) hr (.inl ⟨_, rfl, hE _ _ hv⟩)
    | _ => exact Sim.fail
  case alloc e =>
    refine Sim.need fun z hz => sim_v ?_
    obtain ⟨zv, k1, k2, k3, k4⟩ := zeroOf_spec (μ := μ) hz
    have h := Sim.alc (P := P) (es := 1) (g := false) (el := e) (rest := []) hr k4 k3
    simp only [List.append_nil, Array.toArray_toList] at h
    refine Sim.run (s' := (do pure (.pointer (some (← newRow e zv.cells))))) ?_ (Sim.bind h fun b ad μ' w' H' _ hr' hm => ?_)
    · simp [Instr.alloc, k1, newVar]
    · obtain ⟨l, q1, rfl, q3, _⟩ := hm
      exact Sim.ret (b := .pointer (some ⟨l.blk, l.sh, none⟩)) (by simp) hr' (.ptr (o := 0) q1)
  case box e x =>
    refine Sim.need fun v hv => Sim.ite fun hall => sim_v ?_
    have h := Sim.alc (P := P) (es := 1) (g := false) (el := e) (rest := []) hr ((hE _ _ hv).cells hall) hall
    simp only [List.append_nil, Array.toArray_toList] at h
    refine Sim.run (s' := (do pure (.pointer (some (← newRow e (a.eval x).cells))))) ?_ (Sim.bind h fun b ad μ' w' H' _ hr' hm => ?_)
    · simp [Instr.box, newVar]
    · obtain ⟨l, q1, rfl, q3, _⟩ := hm
      exact Sim.ret (b := .pointer (some ⟨l.blk, l.sh, none⟩)) (by simp) hr' (.ptr (o := 0) q1)
  case build t ps =>
    refine Sim.need fun qs hq => sim_v ?_
    obtain ⟨h1, h2⟩ := parts_rel hE _ _ hq
    exact sim_build hr (by simp [h1]) (by simpa using h2)
  case buildSlice t n ps =>
    refine Sim.need fun qs hq => sim_v ?_
    obtain ⟨h1, h2⟩ := parts_rel hE _ _ hq
    exact sim_buildSlice hr (by simp [h1]) (by simpa using h2)
  case load t x =>
    refine Sim.need fun v hv => Sim.need fun g hg => sim_v ?_
    cases g with
    | true => exact Sim.need fun n hn => Sim.lda hr (hE _ _ hv) hg hn
    | false => exact Sim.ld hr (hE _ _ hv) hg
  case store t x y =>
    exact Sim.need fun v hv => Sim.need fun u hu => Sim.need fun n hn => sim_u (Sim.st hr (hE _ _ hv) (hE _ _ hu) hn)
  case nilCheck x =>
    refine Sim.need fun v hv => ?_
    have h := hE _ _ hv
    cases v with
    | ptr p =>
      cases p with
      | none => exact Sim.fail
      | some r =>
        obtain ⟨l, hl, hav⟩ := VR.ptr_inv h
        exact Sim.ret (b := .value (.pointer (some ⟨l.blk, l.sh + r.2, none⟩))) (by simp [execOp, hav]) hr (.inl ⟨_, rfl, .ptr hl⟩)
    | fn f cs =>
      obtain ⟨vs, hl, hav⟩ := VR.fn_inv h
      exact Sim.ret (b := .value (.func (.func f) #[] ⟨vs⟩)) (by simp [execOp, hav]) hr (.inl ⟨_, rfl, .fn hl⟩)
    | _ => exact Sim.fail
  case binOp op t x y u =>
    exact Sim.need fun v hv => Sim.need fun u hu => Sim.ite fun ht => sim_v (Sim.bin hr (hE _ _ hv) (hE _ _ hu) ht)
  case unOp op t x =>
    exact Sim.need fun v hv => sim_v (Sim.un hr (hE _ _ hv))
  case convert s d x =>
    exact Sim.need fun v hv => sim_v (sim_conv hr (hE _ _ hv))
  case makeFunc fn first caps =>
    cases fn <;> first | exact Sim.fail | skip
    rename_i f
    refine Sim.ite fun h0 => Sim.need fun cs hcs => sim_v ?_
    have hf : first = #[] := Array.eq_empty_of_size_eq_zero h0
    subst hf
    refine Sim.ret (b := .func (.func f) #[] (caps.map a.eval)) (by simp [Instr.makeFunc]) hr ?_
    have := opvs_rel hE _ _ hcs
    have e : caps.map a.eval = ⟨caps.toList.map a.eval⟩ := by apply Array.ext'; simp
    rw [e]
    exact .fn this
  case makeSlice t l c =>
    refine Sim.need fun v hv => Sim.need fun u hu => Sim.need fun q hq => ?_
    obtain ⟨e, sz, by'⟩ := q
    exact Sim.need fun z hz => Sim.ite fun hzl => sim_v (sim_mkS hr (hE _ _ hv) (hE _ _ hu) hq hz hzl)
  case slice t x lo hi mx =>
    refine Sim.need fun v hv => Sim.need fun lo' hlo => Sim.need fun hi' hhi => Sim.need fun mx' hmx => ?_
    have h1 := opvo_rel hE hlo
    have h2 := opvo_rel hE hhi
    have h3 := opvo_rel hE hmx
    by_cases hg : (mx'.isSome && hi'.isNone) = true
    · rw [if_pos hg]; exact Sim.fail
    · rw [if_neg hg]
      have hg' : (mx'.isSome && hi'.isNone) = false := by cases hq : (mx'.isSome && hi'.isNone) with | true => exact absurd hq hg | false => rfl
      have hx := hE _ _ hv
      split
      · rename_i n e hu
        exact Sim.need fun sz hsz => sim_v (sim_slR hr hx h1 h2 h3 hg' hu hsz)
      · rename_i hu
        split
        · cases hm : mx with
          | none => exact sim_v (sim_slStr hr hx h1 h2 hu)
          | some q => simp [opvo, hm] at hmx
        · exact Sim.fail
      · rename_i e hu
        refine Sim.need fun sz hsz => sim_v ?_
        generalize a.eval x = u at hx ⊢
        cases hx <;> first | exact Sim.fail | skip
        case sl0 => exact sim_slX hr (.inl ⟨rfl, rfl⟩) (Nat.le_refl _) (fun _ => rfl) h1 h2 h3 hg' hu hsz
        case slX hl hc => exact sim_slX hr (.inr ⟨_, _, _, hl, rfl, rfl⟩) hc (fun h => by cases h) h1 h2 h3 hg' hu hsz
        case slX0 hl => exact sim_slX0 hr hl h1 h2 h3 hg' hu hsz
        case slU hl g1 g2 g3 g4 => exact sim_slUnk hr (.slU hl g1 g2 g3 g4) h1 h2 h3 hg' hu hsz
        case slE hl he => exact sim_slUnk hr (.slE hl he) h1 h2 h3 hg' hu hsz
      · exact Sim.fail
  case fieldAddr s x f =>
    refine Sim.need fun v hv => Sim.need fun fd hf => Sim.need fun n hn => ?_
    by_cases h0 : n = 0
    · rw [if_pos h0]; exact Sim.fail
    · rw [if_neg h0]; exact sim_v (Sim.fldA hr (hE _ _ hv) hf hn h0)
  case field s x f =>
    exact Sim.need fun v hv => Sim.need fun fd hf => Sim.need fun n hn => Sim.need fun g hg => sim_v (Sim.fldV hr (hE _ _ hv) hf hn hg)
  case indexAddr t x i =>
    refine Sim.need fun v hv => Sim.need fun u hu => ?_
    split
    · rename_i e ht; exact Sim.need fun sz hsz => sim_v (Sim.idxS hr (hE _ _ hv) (hE _ _ hu) ht hsz)
    · rename_i n e ht; exact Sim.need fun sz hsz => sim_v (Sim.idxR hr (hE _ _ hv) (hE _ _ hu) ht hsz)
    · exact Sim.fail
  case index t x i =>
    refine Sim.need fun v hv => Sim.need fun u hu => ?_
    split
    · rename_i ht; exact sim_v (Sim.strIdx hr (hE _ _ hv) (hE _ _ hu) ht)
    · rename_i n e ht; exact Sim.need fun sz hsz => Sim.need fun g hg => sim_v (Sim.idxV hr (hE _ _ hv) (hE _ _ hu) ht hsz hg)
    · exact Sim.fail
  case range t x =>
    refine Sim.need fun v hv => ?_
    split
    · rename_i ht; exact sim_v (sim_rngS hr (hE _ _ hv) ht)
    · exact Sim.fail
  case next it isS =>
    cases isS with
    | false => exact Sim.fail
    | true =>
    exact Sim.need fun v hv => sim_v (sim_nextS hr (hE _ _ hv))
  case extract t i =>
    refine Sim.need fun v hv => sim_v ?_
    have h := hE _ _ hv
    generalize a.eval t = u at h ⊢
    cases h <;> first | exact Sim.fail | skip
    case tup cs vs hl =>
      refine Sim.need fun y hy => ?_
      obtain ⟨q, h1, h2⟩ := hl.get hy
      exact Sim.ret (b := q) (by simp [Instr.extract, h1]) hr h2
  case call c =>
    obtain ⟨cal, args, ats⟩ := c
    cases cal with
    | value f => simp [isCall] at hc
    | builtin b =>
      refine Sim.need fun vs hvs => ?_
      have hl := opvs_rel hE _ _ hvs
      have h := fun cs => sim_builtin (P := P) (b := b) (ats := ats) (ty := ty) (cs := cs) hr hl
      have e : args.map a.eval = (args.toList.map a.eval).toArray := by apply Array.ext'; simp
      refine Sim.run (s' := Go.builtin b ats ty (args.map fun | .const _ => true | _ => false) (args.toList.map a.eval).toArray) ?_ (h _)
      rw [← e]
      simp only [execOp, resolve, invoke, Sem.run_bind, Sem.run_pure, Result.andThen_ok]
      rfl
    | invoke r m => exact Sim.fail
  all_goals exact Sim.fail
end
end Go.Ab
