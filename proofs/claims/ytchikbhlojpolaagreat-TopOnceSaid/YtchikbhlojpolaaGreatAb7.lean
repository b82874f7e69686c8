/- The abstract machine: its steps stand for the model's: conversions, slices, literals. -/
import Derived.Test.YtchikbhlojpolaaGreatAb6
namespace Go.Ab
open Go Go.RowKit

section
variable {P : Program} {W0 : World} {G : Nat → Option Blk} {μ : Mu} {w : World} {H : AH}

/-- A block of cells that the model makes in whatever way. -/
theorem Sim.alcW (hr : RelG W0 μ w H G) {cs : List AV} {es : Nat} {g : Bool} {el : TypeId} {vs rest : List Value} {fz : Nat × Nat} (hv : VRL μ cs vs) (hall : cs.all AV.isCell = true)
    {s : Sem Addr} {w' : World} (hs : s.run P w = .ok ⟨w.heap.size, 0, none⟩ w') (hw : New w w' (.cells (vs ++ rest).toArray el fz))
    (hfz : ∀ (i : Nat), i < vs.length + rest.length → ¬ (fz.1 ≤ i ∧ i < fz.2)) :
    Sim P W0 G μ w H (MadeAt cs es (vs.length + rest.length)) (Ab.alc cs es g) s := by
  intro b H' e
  simp only [Ab.alc, Option.some.injEq, Prod.mk.injEq] at e
  obtain ⟨rfl, rfl⟩ := e
  have hlen := hv.length
  have hfr : μ H.nx = none := hr.rel.fresh _ (Nat.le_refl _)
  obtain ⟨h1, h2⟩ := hr.new (es := es) (g := g) hw (μ' := muSet μ H.nx { blk := w.heap.size, sh := 0, ext := cs.length, top := (vs ++ rest).toArray.size, es }) rfl
    (by simp; omega) (by simpa using hfz) (fun i x hx => by
      obtain ⟨v, k1, k2⟩ := hv.get hx
      refine ⟨by rw [List.all_eq_true] at hall; exact hall _ (List.mem_of_getElem? hx), v, ?_, k2.mono (muSet_le hfr)⟩
      have : i < vs.length := by
        rcases Nat.lt_or_ge i vs.length with h' | h'
        · exact h'
        · simp [List.getElem?_eq_none h'] at k1
      simp [List.getElem?_append_left this, k1])
  exact ⟨⟨w.heap.size, 0, none⟩, _, _, hs, h2, h1, { blk := w.heap.size, sh := 0, ext := cs.length, top := (vs ++ rest).toArray.size, es }, by simp [muSet], rfl, rfl, rfl, rfl, by simp⟩

theorem RelG.same (hr : RelG W0 μ w H G) {w' : World} (hw : Same w w') : RelG W0 μ w' H G := ⟨hr.rel.same hw, hr.dis⟩
theorem same_drew (w : World) : Same w w.drew := ⟨rfl, rfl, rfl, rfl⟩

theorem byteCells_VRL (s : ByteArray) : VRL μ (byteCells s) (s.data.toList.map fun b => .int .u8 b.toNat) := by
  unfold byteCells
  refine VRL.of_get (by simp) fun i x e => ?_
  simp only [List.getElem?_map] at e ⊢
  cases h : s.data.toList[i]? with
  | none => simp [h] at e
  | some b => simp [h] at e; subst e; exact ⟨_, by simp, .int _ _⟩
theorem byteCells_all (s : ByteArray) : (byteCells s).all AV.isCell = true := by
  rw [List.all_eq_true]
  intro x hx
  simp only [byteCells, List.mem_map] at hx
  obtain ⟨b, _, rfl⟩ := hx
  rfl
theorem byteCells_length (s : ByteArray) : (byteCells s).length = s.size := by simp [byteCells]

theorem push_freeze {w : World} {C : Array Value} {el : TypeId} :
    New w (({ w with heap := w.heap.push (.cells C el) } : World).freeze ⟨w.heap.size, C.size, none⟩ 1) (.cells C el (C.size, C.size + 1)) where
  os := by simp [World.freeze]
  tape := by simp [World.freeze]
  output := by simp [World.freeze]
  size := by simp [World.freeze]
  other j hj := by
    simp only [World.freeze, Nat.one_ne_zero, if_false, Array.getElem?_modify]
    rw [if_neg (by omega)]
    simp [Array.getElem?_push]; omega
  here := by
    simp only [World.freeze, Nat.one_ne_zero, if_false, Array.getElem?_modify, if_true]
    simp

theorem run_capDraw {need old : Nat} {el : TypeId} : ∃ c, (choose (.appendCap need old el)).run P w = .ok c w.drew ∧ need ≤ c := by
  exact ⟨(Question.appendCap need old el).cut (w.tape w.drawn (.appendCap need old el)), rfl, by simp [Question.cut]⟩

theorem Sim.slOf {cs : List AV} {es n len c : Nat} {b : Nat} {a : Addr} (h : MadeAt cs es n μ b a) (h1 : len * es = cs.length) (h2 : c * es = n) (hle : len ≤ c) :
    VR μ (.sl (some (b, 0)) len none) (.slice (some a) len c) := by
  obtain ⟨l, k1, rfl, k3, k4, k5, k6⟩ := h
  have := VR.slU (μ := μ) (b := b) (o := 0) (len := len) (c := c) (l := l) k1 (by rw [k5, k4, h1]; omega) (by rw [k4, k5, ← h1]; have := Nat.mul_le_mul_right es hle; omega) (by rw [k3, k5, k6, h2]; omega) hle
  simpa using this

theorem Sim.s2b {s : ByteArray} (hr : RelG W0 μ w H G) {e : TypeId} : Sim P W0 G μ w H VR (s2b (.str s)) (Conv.stringToBytes e s) := by
  simp only [Ab.s2b]
  refine Sim.ite fun _ => ?_
  obtain ⟨c, hc, hle⟩ := run_capDraw (P := P) (w := w) (need := s.size) (old := 0) (el := e)
  have hr' := hr.same (same_drew w)
  let vs : List Value := s.data.toList.map fun b => .int .u8 b.toNat
  let rest : List Value := List.replicate (c - s.size) (.int .u8 0)
  have hvl : vs.length = s.size := by simp [vs]
  let mk : Sem Addr := do
    let a ← newRow e (vs ++ rest).toArray
    markStringish a
    pure a
  have hC : (s.data.map fun b => (Value.int .u8 b.toNat)) ++ Array.replicate (c - s.size) (.int .u8 0) = (vs ++ rest).toArray := by
    simp [vs, rest]
  have hsh : ({ w.drew with heap := w.drew.heap.push (.cells (vs ++ rest).toArray e) } : World).shape? w.drew.heap.size = some (e, (vs ++ rest).toArray.size) := by
    simp only [World.shape?, Array.getElem?_push_size]
  have hmk : mk.run P w.drew = .ok ⟨w.drew.heap.size, 0, none⟩ (({ w.drew with heap := w.drew.heap.push (.cells (vs ++ rest).toArray e) } : World).freeze ⟨w.drew.heap.size, (vs ++ rest).toArray.size, none⟩ 1) := by
    simp only [mk, newRow, markStringish, Sem.run_bind, run_newObj, Result.andThen_ok, Sem.run_pure, run_shape, hsh, run_freeze]
  have h := Sim.alcW (P := P) (cs := byteCells s) (es := 1) (g := true) (vs := vs) (rest := rest) hr' (byteCells_VRL s) (byteCells_all s) hmk push_freeze (by simp; omega)
  have hrun : (Conv.stringToBytes e s).run P w = .ok (.slice (some ⟨w.drew.heap.size, 0, none⟩) s.size c) (({ w.drew with heap := w.drew.heap.push (.cells (vs ++ rest).toArray e) } : World).freeze ⟨w.drew.heap.size, (vs ++ rest).toArray.size, none⟩ 1) := by
    simp only [Conv.stringToBytes, hc, hC, newRow, markStringish, Sem.run_bind, run_newObj, Result.andThen_ok, Sem.run_pure, run_shape, hsh, run_freeze]
  intro x H' ex
  simp only [bnd] at ex
  split at ex
  · rename_i b H1 hb
    simp only [Ab.ret, Option.some.injEq, Prod.mk.injEq] at ex
    obtain ⟨rfl, rfl⟩ := ex
    obtain ⟨a, w1, μ1, k1, k2, k3, k4⟩ := h b H1 hb
    rw [hmk] at k1
    cases k1
    exact ⟨_, _, μ1, hrun, k2, k3, Sim.slOf k4 (by rw [byteCells_length]; omega) (by simp [rest, hvl]; omega) hle⟩
  · cases ex

theorem runesFrom_eq (s : ByteArray) : ∀ (n i : Nat) (acc : Array Value), ∃ vs, Conv.runesFrom s n i acc = acc ++ vs.toArray ∧ VRL μ (runeCells s n i) vs ∧ (runeCells s n i).all AV.isCell = true
  | 0, i, acc => ⟨[], by simp [Conv.runesFrom], .nil, rfl⟩
  | n + 1, i, acc => by
    simp only [Conv.runesFrom, runeCells]
    split
    · obtain ⟨vs, h1, h2, h3⟩ := runesFrom_eq s n (i + (Utf8.decode s i).2) (acc.push (.int .i32 (Int.ofNat (Utf8.decode s i).1)))
      refine ⟨.int .i32 (Int.ofNat (Utf8.decode s i).1) :: vs, ?_, .cons (.int _ _) h2, by simp [AV.isCell, h3]⟩
      rw [h1]; simp
    · exact ⟨[], by simp, .nil, rfl⟩
theorem Sim.s2r {s : ByteArray} (hr : RelG W0 μ w H G) {e : TypeId} : Sim P W0 G μ w H VR (s2r (.str s)) (Conv.stringToRunes e s) := by
  simp only [Ab.s2r]
  refine Sim.ite fun _ => ?_
  obtain ⟨vs, h1, h2, h3⟩ := runesFrom_eq (μ := μ) s s.size 0 #[]
  have h1' : Conv.runesFrom s s.size 0 #[] = vs.toArray := by simpa using h1
  obtain ⟨c, hc, hle⟩ := run_capDraw (P := P) (w := w) (need := vs.toArray.size) (old := 0) (el := e)
  have hr' := hr.same (same_drew w)
  have hl := h2.length
  have h := Sim.alc (P := P) (es := 1) (g := true) (el := e) (rest := List.replicate (c - vs.length) (Value.int .i32 0)) hr' h2 h3
  have hrun : (Conv.stringToRunes e s).run P w = ((do let a ← newRow e (vs ++ List.replicate (c - vs.length) (Value.int .i32 0)).toArray; pure (.slice (some a) vs.length c) : Sem Value)).run P w.drew := by
    have hE : (vs ++ List.replicate (c - vs.length) (Value.int .i32 0)).toArray = vs.toArray ++ Array.replicate (c - vs.length) (.int .i32 0) := by simp
    rw [hE]
    simp only [Conv.stringToRunes, h1', Sem.run_bind, hc, Result.andThen_ok]
    simp
  intro x H' ex
  simp only [bnd] at ex
  split at ex
  · rename_i b H1 hb
    simp only [Ab.ret, Option.some.injEq, Prod.mk.injEq] at ex
    obtain ⟨rfl, rfl⟩ := ex
    obtain ⟨a, w1, μ1, k1, k2, k3, k4⟩ := h b H1 hb
    refine ⟨.slice (some a) vs.length c, w1, μ1, by rw [hrun]; simp [k1], k2, k3, ?_⟩
    rw [hl]
    exact Sim.slOf k4 (by rw [hl]; omega) (by simp; simp at hle; omega) (by simpa using hle)
  · cases ex

theorem forIn_bytes (f : Value → ByteArray → Sem (ForInStep ByteArray))
    (hf : ∀ (n : Int) (r : ByteArray), (f (.int .u8 n) r).run P w = .ok (.yield (r.push (UInt8.ofNat n.toNat))) w) : ∀ (l : List AV) (vs : List Value) (bs : List UInt8) (s : ByteArray), VRL μ l vs → bytesOf l = some bs →
    (forIn vs s f).run P w = .ok ⟨s.data ++ bs.toArray⟩ w
  | [], vs, bs, s, hv, hb => by
    cases hv
    simp [bytesOf] at hb; subst hb
    simp
  | x :: l, vs, bs, s, hv, hb => by
    cases hv with
    | cons hx ht =>
      cases hx with
      | int k n =>
        cases k with
        | u8 =>
          cases hl : bytesOf l with
          | none => simp [bytesOf, hl] at hb
          | some bs' =>
            simp [bytesOf, hl] at hb; subst hb
            simp only [List.forIn_cons, Sem.run_bind, hf, Result.andThen_ok]
            rw [forIn_bytes f hf _ _ _ _ ht hl]
            simp [ByteArray.push]
        | _ => simp [bytesOf] at hb
      | _ => simp [bytesOf] at hb
theorem forIn_runes (f : Value → ByteArray → Sem (ForInStep ByteArray))
    (hf : ∀ (n : Int) (r : ByteArray), (f (.int .i32 n) r).run P w = .ok (.yield (r ++ Utf8.encode n)) w) : ∀ (l : List AV) (vs : List Value) (bs : ByteArray) (s : ByteArray), VRL μ l vs → runesOf l = some bs →
    (forIn vs s f).run P w = .ok (s ++ bs) w
  | [], vs, bs, s, hv, hb => by
    cases hv
    simp [runesOf] at hb; subst hb
    simp
  | x :: l, vs, bs, s, hv, hb => by
    cases hv with
    | cons hx ht =>
      cases hx with
      | int k n =>
        cases k with
        | i32 =>
          cases hl : runesOf l with
          | none => simp [runesOf, hl] at hb
          | some bs' =>
            simp [runesOf, hl] at hb; subst hb
            simp only [List.forIn_cons, Sem.run_bind, hf, Result.andThen_ok]
            rw [forIn_runes f hf _ _ _ _ ht hl]
            simp [ByteArray.append_assoc]
        | _ => simp [runesOf] at hb
      | _ => simp [runesOf] at hb
theorem Sim.b2s {a : AV} {v : Value} (hr : RelG W0 μ w H G) (ha : VR μ a v) : Sim P W0 G μ w H VR (b2s a) (Conv.bytesToString v) := by
  have key : ∀ (b o n c : Nat) (l : Loc), μ b = some l → Sim P W0 G μ w H VR (bnd (ldn (b, o) n) fun cs => Ab.need (bytesOf cs) fun l => Ab.ret (.str ⟨⟨l⟩⟩)) (Conv.bytesToString (.slice (some ⟨l.blk, l.sh + o, none⟩) n c)) := by
    intro b o n c l hl x H' e
    simp only [bnd, ldn] at e
    cases hx : H.rd (b, o) n with
    | none => simp [hx] at e
    | some xs =>
      simp only [hx, Option.map_some, Ab.need] at e
      cases hb : bytesOf xs with
      | none => simp [hb, Ab.fail] at e
      | some bs =>
        simp only [hb, Ab.ret, Option.some.injEq, Prod.mk.injEq] at e
        obtain ⟨rfl, rfl⟩ := e
        obtain ⟨vs, h1, h2, h3, h4⟩ := rd_cells hr hl hx
        refine ⟨.string ⟨⟨bs⟩⟩, w, μ, ?_, Lx.refl _ _, hr, .str _⟩
        unfold Conv.bytesToString
        simp only [Sem.run_bind, run_loadCells P w _ _ n vs h1 h4, Result.andThen_ok, List.forIn_toArray]
        rw [forIn_bytes _ (by intro n r; simp) xs vs bs ByteArray.empty h2 hb]
        simp
  cases ha with
  | sl0 => exact Sim.ret (b := .string .empty) (by simp [Conv.bytesToString]) hr (.str _)
  | slX h hc => exact key _ _ _ _ _ h
  | slU h h1 h2 h3 h4 => exact key _ _ _ _ _ h
  | @slX0 b o l a h =>
    intro x H' e
    simp only [Ab.b2s, bnd, ldn] at e
    cases hx : H.rd (b, o) 0 with
    | none => simp [hx] at e
    | some xs =>
      obtain ⟨vs, h1, h2, h3, h4⟩ := rd_cells hr h hx
      have : vs = [] := List.length_eq_zero_iff.1 h1
      subst this; cases h2
      simp only [hx, Option.map_some, Ab.need, bytesOf, Ab.ret, Option.some.injEq, Prod.mk.injEq] at e
      obtain ⟨rfl, rfl⟩ := e
      exact ⟨.string .empty, w, μ, by simp [Conv.bytesToString, loadCells, loadCellsFrom], Lx.refl _ _, hr, .str _⟩
  | @slE b o l a h he =>
    intro x H' e
    simp only [Ab.b2s, bnd, ldn] at e
    cases hx : H.rd (b, o) 0 with
    | none => simp [hx] at e
    | some xs =>
      obtain ⟨vs, h1, h2, h3, h4⟩ := rd_cells hr h hx
      have : vs = [] := List.length_eq_zero_iff.1 h1
      subst this; cases h2
      simp only [hx, Option.map_some, Ab.need, bytesOf, Ab.ret, Option.some.injEq, Prod.mk.injEq] at e
      obtain ⟨rfl, rfl⟩ := e
      exact ⟨.string .empty, w, μ, by simp [Conv.bytesToString, loadCells, loadCellsFrom], Lx.refl _ _, hr, .str _⟩
  | _ => exact Sim.fail
theorem Sim.r2s {a : AV} {v : Value} (hr : RelG W0 μ w H G) (ha : VR μ a v) : Sim P W0 G μ w H VR (r2s a) (Conv.runesToString v) := by
  have key : ∀ (b o n c : Nat) (l : Loc), μ b = some l → Sim P W0 G μ w H VR (bnd (ldn (b, o) n) fun cs => Ab.need (runesOf cs) fun s => Ab.ret (.str s)) (Conv.runesToString (.slice (some ⟨l.blk, l.sh + o, none⟩) n c)) := by
    intro b o n c l hl x H' e
    simp only [bnd, ldn] at e
    cases hx : H.rd (b, o) n with
    | none => simp [hx] at e
    | some xs =>
      simp only [hx, Option.map_some, Ab.need] at e
      cases hb : runesOf xs with
      | none => simp [hb, Ab.fail] at e
      | some bs =>
        simp only [hb, Ab.ret, Option.some.injEq, Prod.mk.injEq] at e
        obtain ⟨rfl, rfl⟩ := e
        obtain ⟨vs, h1, h2, h3, h4⟩ := rd_cells hr hl hx
        refine ⟨.string bs, w, μ, ?_, Lx.refl _ _, hr, .str _⟩
        unfold Conv.runesToString
        simp only [Sem.run_bind, run_loadCells P w _ _ n vs h1 h4, Result.andThen_ok, List.forIn_toArray]
        rw [forIn_runes _ (by intro n r; simp) xs vs bs ByteArray.empty h2 hb]
        simp
  cases ha with
  | sl0 => exact Sim.ret (b := .string .empty) (by simp [Conv.runesToString]) hr (.str _)
  | slX h hc => exact key _ _ _ _ _ h
  | slU h h1 h2 h3 h4 => exact key _ _ _ _ _ h
  | @slX0 b o l a h =>
    intro x H' e
    simp only [Ab.r2s, bnd, ldn] at e
    cases hx : H.rd (b, o) 0 with
    | none => simp [hx] at e
    | some xs =>
      obtain ⟨vs, h1, h2, h3, h4⟩ := rd_cells hr h hx
      have : vs = [] := List.length_eq_zero_iff.1 h1
      subst this; cases h2
      simp only [hx, Option.map_some, Ab.need, runesOf, Ab.ret, Option.some.injEq, Prod.mk.injEq] at e
      obtain ⟨rfl, rfl⟩ := e
      exact ⟨.string .empty, w, μ, by simp [Conv.runesToString, loadCells, loadCellsFrom], Lx.refl _ _, hr, .str _⟩
  | @slE b o l a h he =>
    intro x H' e
    simp only [Ab.r2s, bnd, ldn] at e
    cases hx : H.rd (b, o) 0 with
    | none => simp [hx] at e
    | some xs =>
      obtain ⟨vs, h1, h2, h3, h4⟩ := rd_cells hr h hx
      have : vs = [] := List.length_eq_zero_iff.1 h1
      subst this; cases h2
      simp only [hx, Option.map_some, Ab.need, runesOf, Ab.ret, Option.some.injEq, Prod.mk.injEq] at e
      obtain ⟨rfl, rfl⟩ := e
      exact ⟨.string .empty, w, μ, by simp [Conv.runesToString, loadCells, loadCellsFrom], Lx.refl _ _, hr, .str _⟩
  | _ => exact Sim.fail

theorem sim_convSl {src dst : TypeId} {p : Option Ref} {len : Nat} {cap : Option Nat} {x : Option Addr} {n c : Nat} (hr : RelG W0 μ w H G) (ha : VR μ (.sl p len cap) (.slice x n c)) :
    Sim P W0 G μ w H VR (evConv P src dst (.sl p len cap)) (convert src dst (.slice x n c)) := by
  have hev : evConv P src dst (.sl p len cap) = match P.underlying src, P.underlying dst with
      | some (.slice e), some .string => (match P.underlying e with | some (.int .u8) => b2s (.sl p len cap) | some (.int .i32) => r2s (.sl p len cap) | _ => Ab.fail)
      | _, _ => Ab.fail := by
    unfold evConv
    cases hs : P.underlying src with
    | none => rfl
    | some d => cases d <;> (cases hd : P.underlying dst with | none => rfl | some d' => cases d' <;> rfl)
  rw [hev]
  split
  · rename_i e hs hd
    split
    · rename_i he
      refine Sim.run ?_ (Sim.b2s hr ha)
      simp [convert, run_underlying hs, run_underlying hd, run_underlying he]
    · rename_i he
      refine Sim.run ?_ (Sim.r2s hr ha)
      simp [convert, run_underlying hs, run_underlying hd, run_underlying he]
    · exact Sim.fail
  · exact Sim.fail
theorem evConv_none {src dst : TypeId} {a : AV} (h : match a with | .int _ _ => False | .str _ => False | .sl _ _ _ => False | _ => True) : evConv P src dst a = Ab.fail := by
  unfold evConv
  cases a <;> first | exact h.elim | skip
  all_goals
    cases hs : P.underlying src with
    | none => rfl
    | some d => cases d <;> (cases hd : P.underlying dst with | none => rfl | some d' => cases d' <;> first | rfl | (simp only [Ab.b2s, Ab.r2s]; split <;> rfl))
theorem sim_conv {src dst : TypeId} {a : AV} {v : Value} (hr : RelG W0 μ w H G) (ha : VR μ a v) : Sim P W0 G μ w H VR (evConv P src dst a) (convert src dst v) := by
  cases ha with
  | int k' n =>
    unfold evConv
    cases hs : P.underlying src with
    | none => exact Sim.fail
    | some d =>
      cases hd : P.underlying dst with
      | none => cases d <;> exact Sim.fail
      | some d' =>
        cases d' with
        | int k =>
          refine Sim.ret (b := .int k (k.wrap n)) ?_ hr (.int _ _)
          simp [convert, run_underlying hs, run_underlying hd, Conv.intToInt]
        | string =>
          refine Sim.ret (b := .string (Utf8.encode n)) ?_ hr (.str _)
          simp [convert, run_underlying hs, run_underlying hd, Conv.intToString]
        | _ => cases d <;> exact Sim.fail
  | str s =>
    unfold evConv
    cases hs : P.underlying src with
    | none => exact Sim.fail
    | some d =>
      cases hd : P.underlying dst with
      | none => cases d <;> exact Sim.fail
      | some d' =>
        cases d' with
        | string =>
          refine Sim.ret (b := .string s) ?_ hr (.str _)
          simp [convert, run_underlying hs, run_underlying hd]
        | slice e =>
          have hd' := hd
          simp only
          split
          · rename_i he
            refine Sim.run ?_ (Sim.s2b hr (e := e))
            simp [convert, run_underlying hs, run_underlying hd, run_underlying he]
          · rename_i he
            refine Sim.run ?_ (Sim.s2r hr (e := e))
            simp [convert, run_underlying hs, run_underlying hd, run_underlying he]
          · exact Sim.fail
        | _ => cases d <;> exact Sim.fail
  | sl0 => exact sim_convSl hr .sl0
  | slX h hc => exact sim_convSl hr (.slX h hc)
  | slX0 h => exact sim_convSl hr (.slX0 h)
  | slU h h1 h2 h3 h4 => exact sim_convSl hr (.slU h h1 h2 h3 h4)
  | slE h he => exact sim_convSl hr (.slE h he)
  | _ => rw [evConv_none (by trivial)]; exact Sim.fail
end
end Go.Ab
