/- TopOnce: what its rounds lean on. -/
import Derived.Test.YtchikbhlojpolaaGreatW2
set_option linter.unusedVariables false
set_option linter.unusedSectionVars false
namespace Go.Proofs.YtchikbhlojpolaaGreat
open Go Go.Ab
def S1 : Sums := fun f => if f = 12 then some (sB true) else none
theorem goodS1 : GoodS Tryz.prog S1 := by
  intro f s h
  unfold S1 at h
  split at h
  · rename_i e; subst e; cases h; exact awake_good
  · cases h
noncomputable def ex1 (f : Nat) : Bool := Nat.beq f 12
noncomputable abbrev K1 : KS UT := KT ex1 1000 40
theorem K1_sm (f : FuncId) (vs : List AV) : Sm Ru (K1 f vs) (CS S1 f vs) := KT_sm (fun f hf => by
  unfold S1
  rw [if_neg]
  intro e; subst e; cases hf) 1000 40 f vs
section
variable {S T : Type} {R : S → T → Prop} {h : Hp S} {k : Hp T} (Q : HpR R h k) {K : KS S} {K' : KS T} (hK : ∀ f vs, Sm R (K f vs) (K' f vs)) {L : LS S} {L' : LS T} (hL : ∀ F F', (∀ ws, Sm R (F ws) (F' ws)) → ∀ ws, Sm R (L F ws) (L' F' ws))
include Q hK hL
set_option maxHeartbeats 4000000 in
theorem s4_4 (a b c d e f g : AV) : Sm R (g4_4 h K L a b c d e f g) (g4_4 k K' L' a b c d e f g) := by
  with_reducible repeat' first
    | exact Sm.ret _ | refine Sm.bnK ?_ ?_ | intro _ | exact Q.ld _ | exact Sm.fldA _ _ | exact Sm.nilchk _ | exact Q.bin _ _ _ | exact Q.st _ _ _
    | exact hK _ _ | refine Sm.gd ?_ | refine Sm.dsp ?_ _ | refine Sm.iteM ?_ ?_ | refine Sm.w0 ?_ _ | refine Sm.w1 ?_ _ | refine Sm.w2 ?_ _ | refine Sm.w3 ?_ _
    | refine Sm.w4 ?_ _ | refine Sm.w5 ?_ _ | refine Sm.dspB ?_ _ | exact Q.lda _ _ | exact Q.eqX _ _ _ _ _ _ _ _ | exact Q.idxS _ _ _ | exact Q.idxR _ _ _ _ | exact Q.cvI _ _
    | exact Q.slS _ _ _ _ _ | exact Q.app _ _ _ _ | exact Sm.lnS _ | exact Sm.extA _ _ | exact Sm.pk _ _ _ | exact Sm.un _ _ | exact Sm.fldV _ _ _ _ | exact Sm.idxV _ _ _ _ _
    | exact Sm.bldS _ _ _ | exact Sm.bldR _ _ _ | refine hL _ _ ?_ _ | exact Q.alP _ | exact Q.boxA _ | exact Q.bsA _ _ _ _ | exact Q.mkS _ _ _ _ _ | exact Q.appZ _ _ _ _ _
    | exact Q.cpy _ _ _ | exact Q.clr _ _ | exact Q.cvSB _ | exact Q.cvSR _ | exact Q.cvB _ | exact Q.cvR _ | exact Q.rngS _ | exact Q.nextS _
    | exact Sm.cl hK _ _ | exact Sm.strIdx _ _ | exact Sm.cvT _ | exact Sm.slStr _ _ _ | exact Sm.slR _ _ _ _ _ _ | exact Sm.lnStr _ | exact Sm.capA _ | refine Sm.need ?_
    | refine Q.ckg _ ?_ ?_ ?_ ?_ | exact Q.ldS _ | exact Q.ldaS _ _ | exact Q.slSS _ _ _ _ _ | exact Q.cvBS _ | exact Q.cvRS _ | exact Q.ldS' _ | exact Q.ldaS' _ _
    | exact Q.slSS' _ _ _ _ _ | exact Q.cvBS' _ | exact Q.cvRS' _ | refine Q.fl _ ?_ | refine Q.ro ?_ ?_ ?_ | refine Q.hv ?_ ?_ | refine Sm.hvG Q _ _ _ ?_ ?_ | exact Q.mrg _ _ _
    | exact LR.nil | refine Sm.bnd ?_ ?_ | refine LR.none ?_ | refine LR.some ?_ ?_ ?_ ?_ | refine LR.rG ?_ ?_ ?_ ?_ | refine Q.roS _ ?_ | refine Q.roS' _ ?_ | refine Sm.tn ?_ ?_
    | refine Sm.tl0 ?_ | refine Sm.tl1 ?_ | refine Sm.tl2 ?_ | refine Sm.tl3 ?_ | refine Sm.tl4 ?_ | refine Sm.tl5 ?_ | refine Sm.tl6 ?_ | refine Sm.q0 ?_ _
    | refine Sm.q1 ?_ _ | refine Sm.q2 ?_ _ | refine Sm.q3 ?_ _ | refine Sm.q4 ?_ _ | refine Sm.q5 ?_ _ | refine Sm.q6 ?_ _ | refine Sm.fnR ?_ | exact Sm.fail
    | unfold g4 | unfold g4_1 | unfold g4_2 | unfold g4_3 | unfold g4_4 | unfold g4_5 | unfold g4_6 | unfold g4_7
    | unfold g4_8 | unfold g4_9 | unfold g4_10 | unfold g5 | unfold g5_1 | unfold g5_2 | unfold g5_3 | unfold g5_4
    | unfold g5_5 | unfold g6 | unfold g10 | unfold g10_1 | unfold g10_2 | unfold g10_3 | unfold g10_4 | unfold g10_5
    | unfold g10_6 | unfold g10_7 | unfold g10_8 | unfold g10_9 | unfold g10_10 | unfold g10_11 | unfold g10_12 | unfold g12
    | unfold g12_1 | unfold g12_2 | unfold g12_3 | unfold g13 | unfold g13_1 | unfold g13_2 | unfold g14 | unfold g14_1
    | unfold g14_2 | unfold g14_3 | unfold g14_4 | unfold g14_5 | unfold g15 | unfold g15_1 | unfold g15_2 | unfold g15_3
    | unfold g15_4 | unfold g16 | unfold g16_1 | unfold g16_2 | unfold g16_3 | unfold g16_4 | unfold g16_5 | unfold g16_6
    | unfold g17 | unfold g17_1 | unfold g17_2 | unfold g17_3 | unfold g17_4 | unfold g17_5 | unfold g18 | unfold g19
    | unfold g20 | unfold g21 | unfold g21_1 | unfold g21_2 | unfold g21_3 | unfold g22 | unfold g22_1 | unfold g23
    | unfold g26 | unfold g26_1 | unfold g26_2 | unfold g26_3 | unfold g26_4 | unfold g26_5 | unfold g26_6 | unfold g26_7
    | unfold g26_8 | unfold g26_9 | unfold g26_10 | unfold g26_11 | unfold g27 | unfold g27_1 | unfold g27_2 | unfold g27_3
    | unfold g27_4 | unfold g27_5 | unfold g27_6 | unfold g27_7 | unfold g27_8 | unfold g27_9 | unfold g27_10 | unfold g27_11
    | unfold g27_12 | unfold g27_13 | unfold g27_14 | unfold g27_15 | unfold g27_16 | unfold g28 | unfold g28_1 | unfold g28_2
    | unfold g28_3 | unfold g28_4 | unfold g29 | unfold g29_1 | unfold g29_2 | unfold g30 | unfold g30_1 | unfold g30_2
    | unfold g30_3 | unfold g30_4 | unfold g30_5 | unfold g30_6 | unfold g30_7 | unfold g30_8 | unfold g30_9 | unfold g30_10
    | unfold g30_11 | unfold g30_12 | unfold g30_13 | unfold g30_14 | unfold g30_15 | unfold g30_16 | unfold g30_17 | unfold g31
    | unfold g31_1 | unfold g31_2 | unfold g31_3 | unfold g32 | unfold g32_1 | unfold g33 | unfold g33_1 | unfold g33_2
    | unfold g33_3 | unfold g34 | unfold g34_1 | unfold g34_2 | unfold g34_3 | unfold g34_4 | unfold g34_5 | unfold g34_6
    | unfold g34_7 | unfold g35 | unfold g35_1 | unfold g35_2 | unfold g35_3 | unfold g36 | unfold g37 | unfold g37_1
    | unfold g37_2 | unfold g37_3 | unfold g37_4 | unfold g37_5 | unfold g38 | unfold g38_1 | unfold g38_2 | unfold g38_3
    | unfold g38_4 | unfold g38_5 | unfold g38_6 | unfold g38_7 | unfold g38_8 | unfold g39 | unfold g39_1 | unfold g39_2
    | unfold g39_3 | unfold g39_4 | unfold g39_5 | unfold g39_6 | unfold g39_7 | unfold g39_8 | unfold g40 | unfold g40_1
    | unfold g42 | unfold g42_1 | unfold g42_2 | unfold g42_3 | unfold g42_4 | unfold g42_5 | unfold g42_6 | unfold g42_7
    | unfold g42_8 | unfold g43 | unfold g43_1 | unfold g43_2 | unfold g43_3 | unfold g43_4 | unfold g43_5 | unfold g43_6
    | unfold g43_7 | unfold g43_8 | unfold g43_9 | unfold g43_10 | unfold g43_11 | unfold g43_12 | unfold g43_13 | unfold g43_14
    | unfold g43_15 | unfold g43_16 | unfold g44 | unfold g45 | unfold g46 | unfold g46_1 | unfold g46_2 | unfold g46_3
    | unfold g46_4 | unfold g46_5 | unfold g46_6 | unfold g46_7 | unfold g46_8 | unfold g46_9 | unfold g46_10 | unfold g46_11
    | unfold g46_12 | unfold g46_13 | unfold g46_14 | unfold g46_15 | unfold g46_16 | unfold g46_17 | unfold g46_18 | unfold g46_19
    | unfold g46_20
end
theorem run4 {hp x1 x2 x3 x4 x5 x6 : AV} {o : Out} {nx nx' : Nat} {L L' : List (Nat × Blk)} (e : ckU (encO o) nx' L' (onU nx L (enM (g4_4 UHp K1 (loopU 1000) hp x1 x2 x3 x4 x5 x6))) = true) {H : AH} (h : Has H nx L) :
    ∃ H', g4_4 AHp (CS S1) loopW hp x1 x2 x3 x4 x5 x6 H = some (o, H') ∧ Has H' nx' L' := ck_runO (s4_4 UHr K1_sm (loop_sm 1000) _ _ _ _ _ _ _) e h
theorem run17 {hp v : AV} {nx nx' : Nat} {L : List (Nat × Blk)} (e : ckU v nx' [] (onU nx L (K1 17 [hp])) = true) {H : AH} (h : Has H nx L) : ∃ H', CS S1 17 [hp] H = some (v, H') := by
  obtain ⟨H', h1, _⟩ := ck_run (K1_sm 17 [hp]) e h
  exact ⟨H', h1⟩
end Go.Proofs.YtchikbhlojpolaaGreat
