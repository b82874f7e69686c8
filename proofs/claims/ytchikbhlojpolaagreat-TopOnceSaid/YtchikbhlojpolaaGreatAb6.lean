/- The abstract machine: its steps stand for the model's: operations that touch no memory. -/
import Derived.Test.YtchikbhlojpolaaGreatAb5
namespace Go.Ab
open Go Go.RowKit

section
variable {P : Program} {W0 : World} {G : Nat → Option Blk} {μ : Mu} {w : World} {H : AH}

theorem Sim.fldA {a : AV} {v : Value} (hr : RelG W0 μ w H G) (ha : VR μ a v) {s : TypeId} {f : Nat} {fd : Field} {n : Nat}
    (hf : fieldOf P s f = some fd) (hn : szOf P fd.type = some n) (h0 : n ≠ 0) :
    Sim P W0 G μ w H VR (fldA fd.offset a) (Instr.fieldAt s v f) := by
  unfold fieldOf at hf
  split at hf
  · rename_i fs hs
    cases ha with
    | @ptr b o l hl =>
      refine Sim.ret (b := .pointer (some ⟨l.blk, l.sh + (o + fd.offset), none⟩)) ?_ hr (.ptr hl)
      simp [Instr.fieldAt, run_underlying hs, hf, Instr.sureAddr, fieldPlace, run_sizeOf hn, h0, add_none, Nat.add_assoc]
    | _ => exact Sim.fail
  · cases hf

theorem inRange_spec {i : Int} {n : Nat} (h : inRange i n = true) : 0 ≤ i ∧ i < (n : Int) := by
  simp [inRange] at h; exact h

theorem Sim.idxS {x i : AV} {v u : Value} (hr : RelG W0 μ w H G) (hx : VR μ x v) (hi : VR μ i u) {t e : TypeId} {sz : Nat}
    (ht : P.underlying t = some (.slice e)) (hn : szOf P e = some sz) : Sim P W0 G μ w H VR (idxS sz x i) (Instr.indexAt t v u) := by
  cases hi with
  | int k n =>
    have key : ∀ (b o len c : Nat) (l : Loc), μ b = some l → Sim P W0 G μ w H VR (if inRange n len then Ab.ret (.ptr (some (b, o + n.toNat * sz))) else Ab.fail)
        (Instr.indexAt t (.slice (some ⟨l.blk, l.sh + o, none⟩) len c) (.int k n)) := by
      intro b o len c l hl
      refine Sim.ite fun hin => ?_
      have h2 := inRange_spec hin
      refine Sim.ret (b := .pointer (some ⟨l.blk, l.sh + (o + n.toNat * sz), none⟩)) ?_ hr (.ptr hl)
      simp [Instr.indexAt, asIntOf, run_underlying ht, h2, run_sizeOf hn, add_none, Nat.add_assoc]
    cases hx with
    | slX h hc => exact key _ _ _ _ _ h
    | slU h h1 h2 h3 h4 => exact key _ _ _ _ _ h
    | slX0 hl =>
      simp only [Ab.idxS]
      refine Sim.ite fun hin => ?_
      have := inRange_spec hin
      omega
    | slE hl he =>
      simp only [Ab.idxS]
      refine Sim.ite fun hin => ?_
      have := inRange_spec hin
      omega
    | _ => exact Sim.fail
  | _ => cases x <;> first | exact Sim.fail | (rename_i a _ _; cases a <;> exact Sim.fail)
theorem Sim.idxR {x i : AV} {v u : Value} (hr : RelG W0 μ w H G) (hx : VR μ x v) (hi : VR μ i u) {t e : TypeId} {len sz : Nat}
    (ht : P.underlying t = some (.array len e)) (hn : szOf P e = some sz) : Sim P W0 G μ w H VR (idxR len sz x i) (Instr.indexAt t v u) := by
  cases hi with
  | int k n =>
    cases hx with
    | @ptr b o l hl =>
      simp only [Ab.idxR]
      refine Sim.ite fun hin => ?_
      have h2 := inRange_spec hin
      refine Sim.ret (b := .pointer (some ⟨l.blk, l.sh + (o + n.toNat * sz), none⟩)) ?_ hr (.ptr hl)
      simp [Instr.indexAt, asIntOf, run_underlying ht, Instr.sureAddr, h2, run_sizeOf hn, add_none, Nat.add_assoc]
    | _ => exact Sim.fail
  | _ => cases x <;> first | exact Sim.fail | (rename_i a; cases a <;> exact Sim.fail)

theorem run_part_agg {t : TypeId} {n : Nat} {cs : List Value} {off : Nat} (ht : aggT P t = some true) (hn : szOf P t = some n) :
    (part t cs.toArray off).run P w = .ok (.agg ((cs.drop off).take n).toArray) w := by
  simp [part, run_isAgg ht, run_sizeOf hn, List.extract_eq_take_drop]
theorem Sim.partA {t : TypeId} {n : Nat} {g : Bool} {cs : List AV} {vs : List Value} {off : Nat} (hr : RelG W0 μ w H G) (hv : VRL μ cs vs) (hc : cs.all AV.isCell = true)
    (ht : aggT P t = some g) (hn : szOf P t = some n) : Sim P W0 G μ w H VR (partA g n cs off) (part t vs.toArray off) := by
  cases g with
  | true =>
    refine Sim.ret (run_part_agg ht hn) hr (.agg ((hv.drop off).take n) ?_)
    rw [List.all_eq_true] at hc ⊢
    exact fun x hx => hc x (List.mem_of_mem_drop (List.mem_of_mem_take hx))
  | false =>
    simp only [Ab.partA, Bool.false_eq_true, if_false]
    refine Sim.need fun x hx => ?_
    obtain ⟨v, h1, h2⟩ := hv.get hx
    refine Sim.ret (b := v) ?_ hr h2
    simp [part, run_isAgg ht, h1]

theorem Sim.fldV {a : AV} {v : Value} (hr : RelG W0 μ w H G) (ha : VR μ a v) {s : TypeId} {f : Nat} {fd : Field} {n : Nat} {g : Bool}
    (hf : fieldOf P s f = some fd) (hn : szOf P fd.type = some n) (hg : aggT P fd.type = some g) :
    Sim P W0 G μ w H VR (fldV g n fd.offset a) (Instr.field s v f) := by
  unfold fieldOf at hf
  split at hf
  · rename_i fs hs
    cases ha with
    | @agg cs vs h hc =>
      simp only [Ab.fldV]
      refine Sim.ite fun _ => Sim.run (s' := part fd.type vs.toArray fd.offset) ?_ (Sim.partA hr h hc hg hn)
      simp [Instr.field, run_underlying hs, hf, asAgg]
    | _ => exact Sim.fail
  · cases hf
theorem Sim.idxV {x i : AV} {v u : Value} (hr : RelG W0 μ w H G) (hx : VR μ x v) (hi : VR μ i u) {t e : TypeId} {len sz : Nat} {g : Bool}
    (ht : P.underlying t = some (.array len e)) (hn : szOf P e = some sz) (hg : aggT P e = some g) :
    Sim P W0 G μ w H VR (idxV len g sz x i) (Instr.index t v u) := by
  cases hi with
  | int k n =>
    cases hx with
    | @agg cs vs h hc =>
      simp only [Ab.idxV]
      refine Sim.ite fun hin => ?_
      simp at hin
      have h2 := inRange_spec hin.1
      refine Sim.run (s' := part e vs.toArray (n.toNat * sz)) ?_ (Sim.partA hr h hc hg hn)
      simp [Instr.index, asIntOf, run_underlying ht, h2, run_sizeOf hn]
    | _ => exact Sim.fail
  | _ => cases x <;> exact Sim.fail
theorem Sim.strIdx {x i : AV} {v u : Value} (hr : RelG W0 μ w H G) (hx : VR μ x v) (hi : VR μ i u) {t : TypeId}
    (ht : P.underlying t = some .string) : Sim P W0 G μ w H VR (strIdx x i) (Instr.index t v u) := by
  cases hi with
  | int k n =>
    cases hx with
    | str s =>
      simp only [Ab.strIdx]
      refine Sim.ite fun h0 => ?_
      cases hs : s[n.toNat]? with
      | none => exact Sim.fail
      | some b =>
        refine Sim.ret (b := .int .u8 b.toNat) ?_ hr (.int _ _)
        simp [Instr.index, asIntOf, run_underlying ht, h0, hs]
    | _ => exact Sim.fail
  | _ => cases x <;> exact Sim.fail

theorem equal_bool {t : TypeId} {a b : Bool} (h : P.underlying t = some .bool) : (Op.equal t (.bool a) (.bool b)).run P w = .ok (a == b) w := by
  rw [Op.equal, show Op.maxDepth = 9999 + 1 from rfl, Op.equalIn]
  simp [run_underlying h]
theorem equal_ptr0 {t e : TypeId} {b : Option Addr} (h : P.underlying t = some (.pointer e)) : (Op.equal t (.pointer none) (.pointer b)).run P w = .ok b.isNone w := by
  rw [Op.equal, show Op.maxDepth = 9999 + 1 from rfl, Op.equalIn]
  simp [run_underlying h]
theorem equal_ptr1 {t e : TypeId} {b : Addr} (h : P.underlying t = some (.pointer e)) : (Op.equal t (.pointer (some b)) (.pointer none)).run P w = .ok false w := by
  rw [Op.equal, show Op.maxDepth = 9999 + 1 from rfl, Op.equalIn]
  simp [run_underlying h]
theorem equal_sl0 {t e : TypeId} {n c m d : Nat} {b : Option Addr} (h : P.underlying t = some (.slice e)) : (Op.equal t (.slice none n c) (.slice b m d)).run P w = .ok b.isNone w := by
  rw [Op.equal, show Op.maxDepth = 9999 + 1 from rfl, Op.equalIn]
  simp [run_underlying h]
theorem equal_sl1 {t e : TypeId} {n c m d : Nat} {b : Addr} (h : P.underlying t = some (.slice e)) : (Op.equal t (.slice (some b) m d) (.slice none n c)).run P w = .ok false w := by
  rw [Op.equal, show Op.maxDepth = 9999 + 1 from rfl, Op.equalIn]
  simp [run_underlying h]
theorem equal_fn {t : TypeId} {a b : Array TypeId} {c : Bool} {x y : Value} {r : Bool} (h : P.underlying t = some (.func a b c))
    (hxy : (x = .nilFunc ∧ y = .nilFunc ∧ r = true) ∨ (x = .nilFunc ∧ (∃ f p q, y = .func f p q) ∧ r = false) ∨ (y = .nilFunc ∧ (∃ f p q, x = .func f p q) ∧ r = false)) :
    (Op.equal t x y).run P w = .ok r w := by
  rw [Op.equal, show Op.maxDepth = 9999 + 1 from rfl, Op.equalIn]
  rcases hxy with ⟨rfl, rfl, rfl⟩ | ⟨rfl, ⟨f, p, q, rfl⟩, rfl⟩ | ⟨rfl, ⟨f, p, q, rfl⟩, rfl⟩ <;> simp [run_underlying h]
theorem equal_ifc {t : TypeId} {ms : Array (String × TypeId)} {x y : Value} {r : Bool} (h : P.underlying t = some (.interface ms))
    (hxy : (x = .nilIface ∧ y = .nilIface ∧ r = true) ∨ (x = .nilIface ∧ (∃ f p, y = .iface f p) ∧ r = false) ∨ (y = .nilIface ∧ (∃ f p, x = .iface f p) ∧ r = false)) :
    (Op.equal t x y).run P w = .ok r w := by
  rw [Op.equal, show Op.maxDepth = 9999 + 1 from rfl, Op.equalIn]
  rcases hxy with ⟨rfl, rfl, rfl⟩ | ⟨rfl, ⟨f, p, rfl⟩, rfl⟩ | ⟨rfl, ⟨f, p, rfl⟩, rfl⟩ <;> simp [run_underlying h]

/-- '==' of eqA is the model's, at a type of the right kind. -/
theorem eqA_run {t : TypeId} {a b : AV} {v u : Value} {r : Bool} {x y : Operand} {op : BinOp} (hop : op = .eql ∨ op = .neq) (ha : VR μ a v) (hb : VR μ b u) (ht : eqTok P op t x y a = true) (h : eqA a b = some r) :
    (Op.equal t v u).run P w = .ok r w ∧ (eqGuard op t x y v u).run P w = .ok () w := by
  have ht' : eqTok P .eql t x y a = true := by rcases hop with rfl | rfl <;> exact ht
  have g : ∀ (v u : Value), (∀ x, ¬ (v = .nilIface ∧ u = .nilIface ∧ x = ())) → (∀ x y, ¬ (v = .agg x ∧ u = .agg y)) → (eqGuard op t x y v u).run P w = .ok () w := by
    intro v u h1 h2
    unfold eqGuard
    rcases hop with rfl | rfl <;> (simp only [Bool.not_true]; cases v <;> cases u <;> first | rfl | exact absurd ⟨rfl, rfl, rfl⟩ (h1 ()) | exact absurd ⟨rfl, rfl⟩ (h2 _ _))
  cases ha with
  | bool p =>
    cases hb with
    | bool q =>
      simp only [eqA, Option.some.injEq] at h; subst h
      simp only [eqTok] at ht'
      split at ht'
      · exact ⟨equal_bool ‹_›, g _ _ (by simp) (by simp)⟩
      · cases ht'
    | _ => simp [eqA] at h
  | ptr0 =>
    simp only [eqTok] at ht'
    split at ht'
    · rename_i e he
      cases hb with
      | ptr0 => simp only [eqA, Option.some.injEq] at h; subst h; exact ⟨equal_ptr0 he, g _ _ (by simp) (by simp)⟩
      | ptr hl => simp only [eqA, Option.some.injEq] at h; subst h; exact ⟨equal_ptr0 he, g _ _ (by simp) (by simp)⟩
      | _ => simp [eqA] at h
    · cases ht'
  | ptr hl =>
    simp only [eqTok] at ht'
    split at ht'
    · rename_i e he
      cases hb with
      | ptr0 => simp only [eqA, Option.some.injEq] at h; subst h; exact ⟨equal_ptr1 he, g _ _ (by simp) (by simp)⟩
      | _ => simp [eqA] at h
    · cases ht'
  | sl0 =>
    simp only [eqTok] at ht'
    split at ht'
    · rename_i e he
      cases hb with
      | sl0 => simp only [eqA, Option.some.injEq] at h; subst h; exact ⟨equal_sl0 he, g _ _ (by simp) (by simp)⟩
      | slX hl hc => simp only [eqA, Option.some.injEq] at h; subst h; exact ⟨equal_sl0 he, g _ _ (by simp) (by simp)⟩
      | slX0 hl => simp only [eqA, Option.some.injEq] at h; subst h; exact ⟨equal_sl0 he, g _ _ (by simp) (by simp)⟩
      | slU hl h1 h2 h3 h4 => simp only [eqA, Option.some.injEq] at h; subst h; exact ⟨equal_sl0 he, g _ _ (by simp) (by simp)⟩
      | slE hl hq => simp only [eqA, Option.some.injEq] at h; subst h; exact ⟨equal_sl0 he, g _ _ (by simp) (by simp)⟩
      | _ => simp [eqA] at h
    · cases ht'
  | slX hl hc =>
    simp only [eqTok] at ht'
    split at ht'
    · rename_i e he
      cases hb with
      | sl0 => simp only [eqA, Option.some.injEq] at h; subst h; exact ⟨equal_sl1 he, g _ _ (by simp) (by simp)⟩
      | _ => simp [eqA] at h
    · cases ht'
  | slX0 hl =>
    simp only [eqTok] at ht'
    split at ht'
    · rename_i e he
      cases hb with
      | sl0 => simp only [eqA, Option.some.injEq] at h; subst h; exact ⟨equal_sl1 he, g _ _ (by simp) (by simp)⟩
      | _ => simp [eqA] at h
    · cases ht'
  | slU hl h1 h2 h3 h4 =>
    simp only [eqTok] at ht'
    split at ht'
    · rename_i e he
      cases hb with
      | sl0 => simp only [eqA, Option.some.injEq] at h; subst h; exact ⟨equal_sl1 he, g _ _ (by simp) (by simp)⟩
      | _ => simp [eqA] at h
    · cases ht'
  | slE hl he =>
    simp only [eqTok] at ht'
    split at ht'
    · rename_i e he
      cases hb with
      | sl0 => simp only [eqA, Option.some.injEq] at h; subst h; exact ⟨equal_sl1 he, g _ _ (by simp) (by simp)⟩
      | _ => simp [eqA] at h
    · cases ht'
  | nilfn =>
    simp only [eqTok] at ht'
    split at ht'
    · rename_i he
      cases hb with
      | nilfn => simp only [eqA, Option.some.injEq] at h; subst h; exact ⟨equal_fn he (.inl ⟨rfl, rfl, rfl⟩), g _ _ (by simp) (by simp)⟩
      | fn hl => simp only [eqA, Option.some.injEq] at h; subst h; exact ⟨equal_fn he (.inr (.inl ⟨rfl, ⟨_, _, _, rfl⟩, rfl⟩)), g _ _ (by simp) (by simp)⟩
      | _ => simp [eqA] at h
    · cases ht'
  | fn hl =>
    simp only [eqTok] at ht'
    split at ht'
    · rename_i he
      cases hb with
      | nilfn => simp only [eqA, Option.some.injEq] at h; subst h; exact ⟨equal_fn he (.inr (.inr ⟨rfl, ⟨_, _, _, rfl⟩, rfl⟩)), g _ _ (by simp) (by simp)⟩
      | _ => simp [eqA] at h
    · cases ht'
  | nilifc =>
    simp only [eqTok] at ht'
    split at ht'
    · rename_i he
      cases hb with
      | nilifc =>
        simp only [eqA, Option.some.injEq] at h; subst h
        refine ⟨equal_ifc he (.inl ⟨rfl, rfl, rfl⟩), ?_⟩
        unfold eqGuard
        rcases hop with rfl | rfl <;> (simp only [Bool.not_true]; cases x <;> cases y <;> first | (simp [eqTok.isK] at ht'; done) | simp)
      | ifc hl => simp only [eqA, Option.some.injEq] at h; subst h; exact ⟨equal_ifc he (.inr (.inl ⟨rfl, ⟨_, _, rfl⟩, rfl⟩)), g _ _ (by simp) (by simp)⟩
      | _ => simp [eqA] at h
    · cases ht'
  | ifc hl =>
    simp only [eqTok] at ht'
    split at ht'
    · rename_i he
      cases hb with
      | nilifc => simp only [eqA, Option.some.injEq] at h; subst h; exact ⟨equal_ifc he (.inr (.inr ⟨rfl, ⟨_, _, rfl⟩, rfl⟩)), g _ _ (by simp) (by simp)⟩
      | _ => simp [eqA] at h
    · cases ht'
  | _ => simp [eqA] at h

theorem int_run {op : BinOp} {t : TypeId} {k : IntKind} {n m : Int} {r : AV} (h : intA op k n m = some r) :
    ∃ res, (binOp op t (.int k n) (.int k m)).run P w = .ok res w ∧ VR μ r res := by
  cases op <;> simp only [intA, bitsA] at h
  case quo =>
    split at h
    · cases h
    · rename_i hy
      cases h
      exact ⟨_, by simp [binOp, Op.intDiv, hy], .int _ _⟩
  case rem =>
    split at h
    · cases h
    · rename_i hy
      cases h
      exact ⟨_, by simp [binOp, Op.intDiv, hy], .int _ _⟩
  all_goals first
    | (cases h; done)
    | (cases h; exact ⟨_, by simp only [binOp, ne_eq, not_true_eq_false, if_false]; rfl, .int _ _⟩)
    | (cases h; exact ⟨_, by simp only [binOp, ne_eq, not_true_eq_false, if_false]; rfl, .bool _⟩)
theorem shift_run {op : BinOp} {t : TypeId} {k k' : IntKind} {n m : Int} {r : AV} (hop : op = .shl ∨ op = .shr) (h : shiftA op k n m = some r) :
    ∃ res, (binOp op t (.int k n) (.int k' m)).run P w = .ok res w ∧ VR μ r res := by
  rcases hop with rfl | rfl <;> simp only [shiftA] at h <;> split at h <;> first | (cases h; done) | skip
  all_goals
    rename_i hy
    cases h
    exact ⟨_, by simp [binOp, Op.shift, hy], .int _ _⟩
theorem str_run {op : BinOp} {t : TypeId} {a b : ByteArray} {r : AV} (h : strA op a b = some r) :
    ∃ res, (binOp op t (.string a) (.string b)).run P w = .ok res w ∧ VR μ r res := by
  cases op <;> simp only [strA] at h
  case add =>
    split at h
    · rename_i hy
      cases h
      refine ⟨_, ?_, .str _⟩
      have : ¬ (((a.size + b.size : Nat) : Int) > IntKind.i64.max) := by
        have : IntKind.i64.max = 9223372036854775807 := by decide
        rw [this]; omega
      simp only [binOp, Op.stringOp, if_neg this, Sem.run_pure]
    · cases h
  all_goals first
    | (cases h; done)
    | (cases h; exact ⟨_, by simp only [binOp]; rfl, .bool _⟩)

theorem Sim.bin {op : BinOp} {t : TypeId} {x y : Operand} {a b : AV} {v u : Value} (hr : RelG W0 μ w H G) (ha : VR μ a v) (hb : VR μ b u) (ht : eqTok P op t x y a = true) :
    Sim P W0 G μ w H VR (bin op a b) (do eqGuard op t x y v u; binOp op t v u) := by
  refine Sim.need fun r hr' => ?_
  have key : (eqGuard op t x y v u).run P w = .ok () w → (∃ res, (binOp op t v u).run P w = .ok res w ∧ VR μ r res) → Sim P W0 G μ w H VR (Ab.ret r) (do eqGuard op t x y v u; binOp op t v u) := by
    intro h1 ⟨q, h2, h3⟩
    refine Sim.ret (b := q) ?_ hr h3
    simp [h1, h2]
  by_cases hI : ∃ k n k' m, a = .int k n ∧ b = .int k' m
  · obtain ⟨k, n, k', m, rfl, rfl⟩ := hI
    cases ha; cases hb
    refine key (by unfold eqGuard; cases op <;> rfl) ?_
    by_cases hop : op = .shl ∨ op = .shr
    · refine shift_run hop ?_
      rcases hop with rfl | rfl <;> exact hr'
    · have : binA op (.int k n) (.int k' m) = if k = k' then intA op k n m else none := by
        cases op <;> first | rfl | exact absurd (.inl rfl) hop | exact absurd (.inr rfl) hop
      rw [this] at hr'
      split at hr'
      · rename_i e; subst e; exact int_run hr'
      · cases hr'
  · by_cases hS : ∃ s s', a = .str s ∧ b = .str s'
    · obtain ⟨s, s', rfl, rfl⟩ := hS
      cases ha; cases hb
      refine key (by unfold eqGuard; cases op <;> rfl) ?_
      have : binA op (.str s) (.str s') = strA op s s' := by cases op <;> rfl
      rw [this] at hr'
      exact str_run hr'
    · have hop : op = .eql ∨ op = .neq := by
        cases op <;> first | exact .inl rfl | exact .inr rfl | (exfalso; revert hr' hI hS; cases a <;> cases b <;> simp [binA])
      obtain ⟨q, hq, hrq⟩ : ∃ q, eqA a b = some q ∧ r = .bool (if op = .eql then q else !q) := by
        have hb' : binA op a b = (eqA a b).map (fun q => .bool (if op = .eql then q else !q)) := by
          rcases hop with rfl | rfl <;> (revert hI hS; cases a <;> cases b <;> simp [binA])
        rw [hb'] at hr'
        cases hq : eqA a b with
        | none => simp [hq] at hr'
        | some q => simp [hq] at hr'; exact ⟨q, rfl, by simp [hr']⟩
      obtain ⟨h1, h2⟩ := eqA_run (w := w) hop ha hb ht hq
      subst hrq
      refine key h2 ⟨.bool (if op = .eql then q else !q), ?_, .bool _⟩
      have hbin : binOp op t v u = (do let e ← Op.equal t v u; pure (.bool (if op = .eql then e else !e))) := by
        rcases hop with rfl | rfl <;> (revert hI hS hq; cases ha <;> cases hb <;> first | (simp [eqA]; done) | (intro _ _ _; rfl))
      rw [hbin]
      simp [h1]

theorem Sim.un {op : UnOp} {a : AV} {v : Value} (hr : RelG W0 μ w H G) (ha : VR μ a v) : Sim P W0 G μ w H VR (un op a) (Op.unary op v) := by
  refine Sim.need fun r h => ?_
  have key : ∀ q, (Op.unary op v).run P w = .ok q w → VR μ r q → Sim P W0 G μ w H VR (Ab.ret r) (Op.unary op v) := fun q h1 h2 => Sim.ret h1 hr h2
  cases ha <;> cases op <;> simp only [unA, bitsA] at h <;> first
    | (cases h; done)
    | (cases h; refine key _ ?_ (.int _ _); simp [Op.unary, Op.intArith]; done)
    | (cases h; refine key _ ?_ (.int _ _); simp [Op.unary, Op.intBits]; done)
    | (cases h; refine key _ ?_ (.bool _); simp [Op.unary]; done)
end
end Go.Ab
