/- The run of awake, in parts, each reckoned by the kernel. -/
import Derived.Test.YtchikbhlojpolaaGreatGA
import Derived.Test.YtchikbhlojpolaaGreatCk
set_option linter.unusedVariables false
set_option linter.unusedSectionVars false
namespace Go.Proofs.YtchikbhlojpolaaGreat
open Go Go.Ab
noncomputable def ex0 (_ : Nat) : Bool := false
noncomputable abbrev KU : KS UT := KT ex0 1000 40
theorem KU_sm (f : FuncId) (vs : List AV) : Sm Ru (KU f vs) (CS S0 f vs) := KT_sm (fun _ _ => rfl) 1000 40 f vs
section
variable {S T : Type} {R : S → T → Prop} {h : Hp S} {k : Hp T} (Q : HpR R h k) {K : KS S} {K' : KS T} (hK : ∀ f vs, Sm R (K f vs) (K' f vs)) {L : LS S} {L' : LS T} (hL : ∀ F F', (∀ ws, Sm R (F ws) (F' ws)) → ∀ ws, Sm R (L F ws) (L' F' ws))
include Q hK hL
set_option maxHeartbeats 4000000 in
theorem s34_6 (a b c : AV) (ws : List AV) : Sm R (g34_6 h K L a b c ws) (g34_6 k K' L' a b c ws) := by
  with_reducible repeat' first
    | exact Sm.ret _ | refine Sm.bnK ?_ ?_ | intro _ | exact Q.ld _ | exact Sm.fldA _ _ | exact Sm.nilchk _ | exact Q.bin _ _ _ | exact Q.st _ _ _
    | exact hK _ _ | refine Sm.gd ?_ | refine Sm.dsp ?_ _ | refine Sm.iteM ?_ ?_ | refine Sm.w0 ?_ _ | refine Sm.w1 ?_ _ | refine Sm.w2 ?_ _ | refine Sm.w3 ?_ _
    | refine Sm.w4 ?_ _ | refine Sm.w5 ?_ _ | refine Sm.dspB ?_ _ | exact Q.lda _ _ | exact Q.eqX _ _ _ _ _ _ _ _ | exact Q.idxS _ _ _ | exact Q.idxR _ _ _ _ | exact Q.cvI _ _
    | exact Q.slS _ _ _ _ _ | exact Q.app _ _ _ _ | exact Sm.lnS _ | exact Sm.extA _ _ | exact Sm.pk _ _ _ | exact Sm.un _ _ | exact Sm.fldV _ _ _ _ | exact Sm.idxV _ _ _ _ _
    | exact Sm.bldS _ _ _ | exact Sm.bldR _ _ _ | refine hL _ _ ?_ _ | exact Q.alP _ | exact Q.boxA _ | exact Q.bsA _ _ _ _ | exact Q.mkS _ _ _ _ _ | exact Q.appZ _ _ _ _ _
    | exact Q.cpy _ _ _ | exact Q.clr _ _ | exact Q.cvSB _ | exact Q.cvSR _ | exact Q.cvB _ | exact Q.cvR _ | exact Q.rngS _ | exact Q.nextS _
    | exact Sm.cl hK _ _ | exact Sm.strIdx _ _ | exact Sm.cvT _ | exact Sm.slStr _ _ _ | exact Sm.slR _ _ _ _ _ _ | exact Sm.lnStr _ | exact Sm.capA _ | refine Sm.need ?_
    | refine Q.ckg _ ?_ ?_ ?_ ?_ | exact Q.ldS _ | exact Q.ldaS _ _ | exact Q.slSS _ _ _ _ _ | exact Q.cvBS _ | exact Q.cvRS _ | exact Q.ldS' _ | exact Q.ldaS' _ _
    | exact Q.slSS' _ _ _ _ _ | exact Q.cvBS' _ | exact Q.cvRS' _ | refine Q.fl _ ?_ | refine Q.ro ?_ ?_ ?_ | refine Q.hv ?_ ?_ | refine Sm.hvG Q _ _ _ ?_ ?_ | exact Q.mrg _ _ _
    | exact LR.nil | refine Sm.bnd ?_ ?_ | refine LR.none ?_ | refine LR.some ?_ ?_ ?_ ?_ | refine LR.rG ?_ ?_ ?_ ?_ | refine Q.roS _ ?_ | refine Q.roS' _ ?_ | refine Sm.tn ?_ ?_
    | refine Sm.tl0 ?_ | refine Sm.tl1 ?_ | refine Sm.tl2 ?_ | refine Sm.tl3 ?_ | refine Sm.tl4 ?_ | refine Sm.tl5 ?_ | refine Sm.tl6 ?_ | refine Sm.q0 ?_ _
    | refine Sm.q1 ?_ _ | refine Sm.q2 ?_ _ | refine Sm.q3 ?_ _ | refine Sm.q4 ?_ _ | refine Sm.q5 ?_ _ | refine Sm.q6 ?_ _ | refine Sm.fnR ?_ | exact Sm.fail
    | unfold g4 | unfold g4_1 | unfold g4_2 | unfold g4_3 | unfold g4_4 | unfold g4_5 | unfold g4_6 | unfold g4_7
    | unfold g4_8 | unfold g4_9 | unfold g4_10 | unfold g5 | unfold g5_1 | unfold g5_2 | unfold g5_3 | unfold g5_4
    | unfold g5_5 | unfold g6 | unfold g10 | unfold g10_1 | unfold g10_2 | unfold g10_3 | unfold g10_4 | unfold g10_5
    | unfold g10_6 | unfold g10_7 | unfold g10_8 | unfold g10_9 | unfold g10_10 | unfold g10_11 | unfold g10_12 | unfold g12
    | unfold g12_1 | unfold g12_2 | unfold g12_3 | unfold g13 | unfold g13_1 | unfold g13_2 | unfold g14 | unfold g14_1
    | unfold g14_2 | unfold g14_3 | unfold g14_4 | unfold g14_5 | unfold g15 | unfold g15_1 | unfold g15_2 | unfold g15_3
    | unfold g15_4 | unfold g16 | unfold g16_1 | unfold g16_2 | unfold g16_3 | unfold g16_4 | unfold g16_5 | unfold g16_6
    | unfold g17 | unfold g17_1 | unfold g17_2 | unfold g17_3 | unfold g17_4 | unfold g17_5 | unfold g18 | unfold g19
    | unfold g20 | unfold g21 | unfold g21_1 | unfold g21_2 | unfold g21_3 | unfold g22 | unfold g22_1 | unfold g23
    | unfold g26 | unfold g26_1 | unfold g26_2 | unfold g26_3 | unfold g26_4 | unfold g26_5 | unfold g26_6 | unfold g26_7
    | unfold g26_8 | unfold g26_9 | unfold g26_10 | unfold g26_11 | unfold g27 | unfold g27_1 | unfold g27_2 | unfold g27_3
    | unfold g27_4 | unfold g27_5 | unfold g27_6 | unfold g27_7 | unfold g27_8 | unfold g27_9 | unfold g27_10 | unfold g27_11
    | unfold g27_12 | unfold g27_13 | unfold g27_14 | unfold g27_15 | unfold g27_16 | unfold g28 | unfold g28_1 | unfold g28_2
    | unfold g28_3 | unfold g28_4 | unfold g29 | unfold g29_1 | unfold g29_2 | unfold g30 | unfold g30_1 | unfold g30_2
    | unfold g30_3 | unfold g30_4 | unfold g30_5 | unfold g30_6 | unfold g30_7 | unfold g30_8 | unfold g30_9 | unfold g30_10
    | unfold g30_11 | unfold g30_12 | unfold g30_13 | unfold g30_14 | unfold g30_15 | unfold g30_16 | unfold g30_17 | unfold g31
    | unfold g31_1 | unfold g31_2 | unfold g31_3 | unfold g32 | unfold g32_1 | unfold g33 | unfold g33_1 | unfold g33_2
    | unfold g33_3 | unfold g34 | unfold g34_1 | unfold g34_2 | unfold g34_3 | unfold g34_4 | unfold g34_5 | unfold g34_6
    | unfold g34_7 | unfold g35 | unfold g35_1 | unfold g35_2 | unfold g35_3 | unfold g36 | unfold g37 | unfold g37_1
    | unfold g37_2 | unfold g37_3 | unfold g37_4 | unfold g37_5 | unfold g38 | unfold g38_1 | unfold g38_2 | unfold g38_3
    | unfold g38_4 | unfold g38_5 | unfold g38_6 | unfold g38_7 | unfold g38_8 | unfold g39 | unfold g39_1 | unfold g39_2
    | unfold g39_3 | unfold g39_4 | unfold g39_5 | unfold g39_6 | unfold g39_7 | unfold g39_8 | unfold g40 | unfold g40_1
    | unfold g42 | unfold g42_1 | unfold g42_2 | unfold g42_3 | unfold g42_4 | unfold g42_5 | unfold g42_6 | unfold g42_7
    | unfold g42_8 | unfold g43 | unfold g43_1 | unfold g43_2 | unfold g43_3 | unfold g43_4 | unfold g43_5 | unfold g43_6
    | unfold g43_7 | unfold g43_8 | unfold g43_9 | unfold g43_10 | unfold g43_11 | unfold g43_12 | unfold g43_13 | unfold g43_14
    | unfold g43_15 | unfold g43_16 | unfold g44 | unfold g45 | unfold g46 | unfold g46_1 | unfold g46_2 | unfold g46_3
    | unfold g46_4 | unfold g46_5 | unfold g46_6 | unfold g46_7 | unfold g46_8 | unfold g46_9 | unfold g46_10 | unfold g46_11
    | unfold g46_12 | unfold g46_13 | unfold g46_14 | unfold g46_15 | unfold g46_16 | unfold g46_17 | unfold g46_18 | unfold g46_19
    | unfold g46_20
set_option maxHeartbeats 4000000 in
theorem s12_2 (a b : AV) : Sm R (g12_2 h K L a b) (g12_2 k K' L' a b) := by
  with_reducible repeat' first
    | exact Sm.ret _ | refine Sm.bnK ?_ ?_ | intro _ | exact Q.ld _ | exact Sm.fldA _ _ | exact Sm.nilchk _ | exact Q.bin _ _ _ | exact Q.st _ _ _
    | exact hK _ _ | refine Sm.gd ?_ | refine Sm.dsp ?_ _ | refine Sm.iteM ?_ ?_ | refine Sm.w0 ?_ _ | refine Sm.w1 ?_ _ | refine Sm.w2 ?_ _ | refine Sm.w3 ?_ _
    | refine Sm.w4 ?_ _ | refine Sm.w5 ?_ _ | refine Sm.dspB ?_ _ | exact Q.lda _ _ | exact Q.eqX _ _ _ _ _ _ _ _ | exact Q.idxS _ _ _ | exact Q.idxR _ _ _ _ | exact Q.cvI _ _
    | exact Q.slS _ _ _ _ _ | exact Q.app _ _ _ _ | exact Sm.lnS _ | exact Sm.extA _ _ | exact Sm.pk _ _ _ | exact Sm.un _ _ | exact Sm.fldV _ _ _ _ | exact Sm.idxV _ _ _ _ _
    | exact Sm.bldS _ _ _ | exact Sm.bldR _ _ _ | refine hL _ _ ?_ _ | exact Q.alP _ | exact Q.boxA _ | exact Q.bsA _ _ _ _ | exact Q.mkS _ _ _ _ _ | exact Q.appZ _ _ _ _ _
    | exact Q.cpy _ _ _ | exact Q.clr _ _ | exact Q.cvSB _ | exact Q.cvSR _ | exact Q.cvB _ | exact Q.cvR _ | exact Q.rngS _ | exact Q.nextS _
    | exact Sm.cl hK _ _ | exact Sm.strIdx _ _ | exact Sm.cvT _ | exact Sm.slStr _ _ _ | exact Sm.slR _ _ _ _ _ _ | exact Sm.lnStr _ | exact Sm.capA _ | refine Sm.need ?_
    | refine Q.ckg _ ?_ ?_ ?_ ?_ | exact Q.ldS _ | exact Q.ldaS _ _ | exact Q.slSS _ _ _ _ _ | exact Q.cvBS _ | exact Q.cvRS _ | exact Q.ldS' _ | exact Q.ldaS' _ _
    | exact Q.slSS' _ _ _ _ _ | exact Q.cvBS' _ | exact Q.cvRS' _ | refine Q.fl _ ?_ | refine Q.ro ?_ ?_ ?_ | refine Q.hv ?_ ?_ | refine Sm.hvG Q _ _ _ ?_ ?_ | exact Q.mrg _ _ _
    | exact LR.nil | refine Sm.bnd ?_ ?_ | refine LR.none ?_ | refine LR.some ?_ ?_ ?_ ?_ | refine LR.rG ?_ ?_ ?_ ?_ | refine Q.roS _ ?_ | refine Q.roS' _ ?_ | refine Sm.tn ?_ ?_
    | refine Sm.tl0 ?_ | refine Sm.tl1 ?_ | refine Sm.tl2 ?_ | refine Sm.tl3 ?_ | refine Sm.tl4 ?_ | refine Sm.tl5 ?_ | refine Sm.tl6 ?_ | refine Sm.q0 ?_ _
    | refine Sm.q1 ?_ _ | refine Sm.q2 ?_ _ | refine Sm.q3 ?_ _ | refine Sm.q4 ?_ _ | refine Sm.q5 ?_ _ | refine Sm.q6 ?_ _ | refine Sm.fnR ?_ | exact Sm.fail
    | unfold g4 | unfold g4_1 | unfold g4_2 | unfold g4_3 | unfold g4_4 | unfold g4_5 | unfold g4_6 | unfold g4_7
    | unfold g4_8 | unfold g4_9 | unfold g4_10 | unfold g5 | unfold g5_1 | unfold g5_2 | unfold g5_3 | unfold g5_4
    | unfold g5_5 | unfold g6 | unfold g10 | unfold g10_1 | unfold g10_2 | unfold g10_3 | unfold g10_4 | unfold g10_5
    | unfold g10_6 | unfold g10_7 | unfold g10_8 | unfold g10_9 | unfold g10_10 | unfold g10_11 | unfold g10_12 | unfold g12
    | unfold g12_1 | unfold g12_2 | unfold g12_3 | unfold g13 | unfold g13_1 | unfold g13_2 | unfold g14 | unfold g14_1
    | unfold g14_2 | unfold g14_3 | unfold g14_4 | unfold g14_5 | unfold g15 | unfold g15_1 | unfold g15_2 | unfold g15_3
    | unfold g15_4 | unfold g16 | unfold g16_1 | unfold g16_2 | unfold g16_3 | unfold g16_4 | unfold g16_5 | unfold g16_6
    | unfold g17 | unfold g17_1 | unfold g17_2 | unfold g17_3 | unfold g17_4 | unfold g17_5 | unfold g18 | unfold g19
    | unfold g20 | unfold g21 | unfold g21_1 | unfold g21_2 | unfold g21_3 | unfold g22 | unfold g22_1 | unfold g23
    | unfold g26 | unfold g26_1 | unfold g26_2 | unfold g26_3 | unfold g26_4 | unfold g26_5 | unfold g26_6 | unfold g26_7
    | unfold g26_8 | unfold g26_9 | unfold g26_10 | unfold g26_11 | unfold g27 | unfold g27_1 | unfold g27_2 | unfold g27_3
    | unfold g27_4 | unfold g27_5 | unfold g27_6 | unfold g27_7 | unfold g27_8 | unfold g27_9 | unfold g27_10 | unfold g27_11
    | unfold g27_12 | unfold g27_13 | unfold g27_14 | unfold g27_15 | unfold g27_16 | unfold g28 | unfold g28_1 | unfold g28_2
    | unfold g28_3 | unfold g28_4 | unfold g29 | unfold g29_1 | unfold g29_2 | unfold g30 | unfold g30_1 | unfold g30_2
    | unfold g30_3 | unfold g30_4 | unfold g30_5 | unfold g30_6 | unfold g30_7 | unfold g30_8 | unfold g30_9 | unfold g30_10
    | unfold g30_11 | unfold g30_12 | unfold g30_13 | unfold g30_14 | unfold g30_15 | unfold g30_16 | unfold g30_17 | unfold g31
    | unfold g31_1 | unfold g31_2 | unfold g31_3 | unfold g32 | unfold g32_1 | unfold g33 | unfold g33_1 | unfold g33_2
    | unfold g33_3 | unfold g34 | unfold g34_1 | unfold g34_2 | unfold g34_3 | unfold g34_4 | unfold g34_5 | unfold g34_6
    | unfold g34_7 | unfold g35 | unfold g35_1 | unfold g35_2 | unfold g35_3 | unfold g36 | unfold g37 | unfold g37_1
    | unfold g37_2 | unfold g37_3 | unfold g37_4 | unfold g37_5 | unfold g38 | unfold g38_1 | unfold g38_2 | unfold g38_3
    | unfold g38_4 | unfold g38_5 | unfold g38_6 | unfold g38_7 | unfold g38_8 | unfold g39 | unfold g39_1 | unfold g39_2
    | unfold g39_3 | unfold g39_4 | unfold g39_5 | unfold g39_6 | unfold g39_7 | unfold g39_8 | unfold g40 | unfold g40_1
    | unfold g42 | unfold g42_1 | unfold g42_2 | unfold g42_3 | unfold g42_4 | unfold g42_5 | unfold g42_6 | unfold g42_7
    | unfold g42_8 | unfold g43 | unfold g43_1 | unfold g43_2 | unfold g43_3 | unfold g43_4 | unfold g43_5 | unfold g43_6
    | unfold g43_7 | unfold g43_8 | unfold g43_9 | unfold g43_10 | unfold g43_11 | unfold g43_12 | unfold g43_13 | unfold g43_14
    | unfold g43_15 | unfold g43_16 | unfold g44 | unfold g45 | unfold g46 | unfold g46_1 | unfold g46_2 | unfold g46_3
    | unfold g46_4 | unfold g46_5 | unfold g46_6 | unfold g46_7 | unfold g46_8 | unfold g46_9 | unfold g46_10 | unfold g46_11
    | unfold g46_12 | unfold g46_13 | unfold g46_14 | unfold g46_15 | unfold g46_16 | unfold g46_17 | unfold g46_18 | unfold g46_19
    | unfold g46_20
end
noncomputable def k0 : Blk := .cells [tt, (i 1073741824), (su 311 0 2), s0, tt, (i 100000), s0, (su 555 0 1), ff, (i 0), s0, s0, ff, (i 0), s0, s0, ff, (i 0), s0, s0, ff, (i 0), s0, s0] 1 false true
noncomputable def k1 : Blk := .cells [(p 1 0), (p 103 0), (p 446 0), p0, p0, p0, p0, (i 0), (i 0), (i 0), (i 0), (i 0), (i 0), s0] 1 false true
noncomputable def k2 : Blk := .cells [s0] 1 false true
noncomputable def k3 : Blk := .cells [(i 1073741824), (.int .u64 0), ff, s0, (p 99 0)] 1 false true
noncomputable def k4 : Blk := .cells [(i 1073741824), (i 6000), (i 6000000000)] 1 false true
noncomputable def k5 : Blk := .cells [s0, (p 101 0), (i 0)] 1 false true
noncomputable def k6 : Blk := .cells [(p 100 0), (p 102 0), (p 327 0), (p 339 0), s0, ff] 1 false true
noncomputable def k7 : Blk := .cells [(.str ⟨#[108, 48]⟩), (.int .u32 40), (i 100), (.str ⟨#[108, 49]⟩), (.int .u32 41), (i 200)] 3 true true
noncomputable def k8 : Blk := .cells [(su 337 0 2)] 1 false true
noncomputable def k9 : Blk := .cells [(i (-1)), (i (-1)), (i 0), (.int .u64 0)] 1 false true
noncomputable def k10 : Blk := .cells [(i 0), (i 0), (i 0), (i 0), (i 0), (i 0), (i 0)] 1 false true
noncomputable def k11 : Blk := .cells [(.str ⟨#[108, 48]⟩), (.int .u32 40), (i 100), (p 329 0), (p 330 0), ff, (i 0), ff, ff, (i 0), (.str ⟨#[108, 49]⟩), (.int .u32 41), (i 200), (p 334 0), (p 335 0), ff, (i 0), ff, ff, (i 0)] 10 true true
noncomputable def k12 : Blk := .cells [(i 0), ff, (i 0), ff] 2 false true
noncomputable def k13 : Blk := .cells [(sk 338 0 2 2)] 1 false true
noncomputable def k14 : Blk := .cells [(i 100000), (.int .u64 0), ff, s0, (p 442 0)] 1 false true
noncomputable def k15 : Blk := .cells [(i 100000), (i 6000), (i 6000000000)] 1 false true
noncomputable def k16 : Blk := .cells [s0, (p 444 0), (i 0)] 1 false true
noncomputable def k17 : Blk := .cells [(p 443 0), (p 445 0), p0, p0, (su 560 0 1), ff] 1 false true
noncomputable def k18 : Blk := .cells [(i 0), (i 500), (i 0)] 3 true true
noncomputable def k19 : Blk := .cells [(.int .u32 2), (i (-1)), (i (-1)), (i 0), (i (-1)), (i 0), (i 0), (i 0), (i 0)] 1 false true
noncomputable def k20 : Blk := .cells [(i 0), (.int .u32 2), (p 557 0), (i 500), (i 0), (i (-1))] 1 false true
noncomputable def k21 : Blk := .cells [(p 558 0)] 1 true true
noncomputable def k22 : Blk := .cells [(p 1 0), (p 103 0), (p 446 0), p0, p0, p0, p0, (i 200000), (i 0), (i 0), (i 0), (i 0), (i 0), s0] 1 false true
noncomputable def k23 : Blk := .cells [(su 1382 1 0), (p 101 0), (i 0)] 1 false true
noncomputable def k24 : Blk := .cells [(i 0), (i 4), (i 5), (.int .u64 31)] 1 false true
noncomputable def k25 : Blk := .cells [(i 444), (i 296), (i 0), (i 0), (i 0), (i 1), (i 740)] 1 false true
noncomputable def k26 : Blk := .cells [(.str ⟨#[108, 48]⟩), (.int .u32 40), (i 100), (p 329 0), (p 330 0), tt, (i 460000), ff, ff, (i 0), (.str ⟨#[108, 49]⟩), (.int .u32 41), (i 200), (p 334 0), (p 335 0), tt, (i 460000), ff, ff, (i 0)] 10 true true
noncomputable def k27 : Blk := .cells [(i 0), ff, (i 200000), ff] 2 false true
noncomputable def k28 : Blk := .cells [(su 5591 1 0), (p 444 0), (i 0)] 1 false true
noncomputable def k29 : Blk := .cells [(.int .u32 2), (i 1), (i 1), (i 1), (i 3), (i 360), (i 4), (i 360), (i 0)] 1 false true
noncomputable def k30 : Blk := .cells [(i 0), (.int .u32 2), (p 557 0), (i 500), (i 0), (i 1)] 1 false true
noncomputable def k31 : Blk := .cells (bs [129, 206, 0, 2, 0, 0, 0, 1, 0, 0, 0, 40]) 1 true true
noncomputable def k32 : Blk := .cells (bs [129, 206, 0, 2, 0, 0, 0, 1, 0, 0, 0, 41]) 1 true true
noncomputable def k33 : Blk := .cells [(su 1380 0 12)] 1 true true
noncomputable def k34 : Blk := .cells (bs [128, 96, 0, 0, 0, 0, 0, 90, 0, 0, 0, 2, 1, 0, 0, 0, 0, 0, 0, 0, 0, 0, 0, 0, 0, 0, 0, 0, 0, 0, 0, 0, 0, 0, 0, 0, 0, 0, 0, 0, 0, 0, 0, 0, 0, 0, 0, 0, 0, 0, 0, 0, 0, 0, 0, 0, 0, 0, 0, 0, 0, 0, 0, 0, 0, 0, 0, 0, 0, 0, 0, 0, 0, 0, 0, 0, 0, 0, 0, 0, 0, 0, 0, 0, 0, 0, 0, 0, 0, 0, 0, 0, 0, 0, 0, 0, 0, 0, 0, 0, 0, 0, 0, 0, 0, 0, 0, 0, 0, 0, 0, 0]) 1 true true
noncomputable def k35 : Blk := .cells (bs [128, 96, 0, 1, 0, 0, 0, 180, 0, 0, 0, 2, 1, 0, 0, 0, 0, 0, 0, 0, 0, 0, 0, 0, 0, 0, 0, 0, 0, 0, 0, 0, 0, 0, 0, 0, 0, 0, 0, 0, 0, 0, 0, 0, 0, 0, 0, 0, 0, 0, 0, 0, 0, 0, 0, 0, 0, 0, 0, 0, 0, 0, 0, 0, 0, 0, 0, 0, 0, 0, 0, 0, 0, 0, 0, 0, 0, 0, 0, 0, 0, 0, 0, 0, 0, 0, 0, 0, 0, 0, 0, 0, 0, 0, 0, 0, 0, 0, 0, 0, 0, 0, 0, 0, 0, 0, 0, 0, 0, 0, 0, 0]) 1 true true
noncomputable def k36 : Blk := .cells (bs [128, 96, 0, 2, 0, 0, 1, 14, 0, 0, 0, 2, 1, 0, 0, 0, 0, 0, 0, 0, 0, 0, 0, 0, 0, 0, 0, 0, 0, 0, 0, 0, 0, 0, 0, 0, 0, 0, 0, 0, 0, 0, 0, 0, 0, 0, 0, 0, 0, 0, 0, 0, 0, 0, 0, 0, 0, 0, 0, 0, 0, 0, 0, 0, 0, 0, 0, 0, 0, 0, 0, 0, 0, 0, 0, 0, 0, 0, 0, 0, 0, 0, 0, 0, 0, 0, 0, 0, 0, 0, 0, 0, 0, 0, 0, 0, 0, 0, 0, 0, 0, 0, 0, 0, 0, 0, 0, 0, 0, 0, 0, 0]) 1 true true
noncomputable def k37 : Blk := .cells (bs [128, 96, 0, 3, 0, 0, 1, 104, 0, 0, 0, 2, 1, 0, 0, 0, 0, 0, 0, 0, 0, 0, 0, 0, 0, 0, 0, 0, 0, 0, 0, 0, 0, 0, 0, 0, 0, 0, 0, 0, 0, 0, 0, 0, 0, 0, 0, 0, 0, 0, 0, 0, 0, 0, 0, 0, 0, 0, 0, 0, 0, 0, 0, 0, 0, 0, 0, 0, 0, 0, 0, 0, 0, 0, 0, 0, 0, 0, 0, 0, 0, 0, 0, 0, 0, 0, 0, 0, 0, 0, 0, 0, 0, 0, 0, 0, 0, 0, 0, 0, 0, 0, 0, 0, 0, 0, 0, 0, 0, 0, 0, 0]) 1 true true
noncomputable def k38 : Blk := .cells [(su 5589 0 112)] 1 true true
noncomputable def k39 : Blk := .cells [(i 0), ff, (su 960 0 12), (i 0), ff, (su 1380 0 12), (i 1), ff, (su 2346 0 112), (i 1), ff, (su 3427 0 112), (i 1), ff, (su 4508 0 112), (i 1), ff, (su 5589 0 112)] 3 true true
noncomputable def k40 : Blk := .cells [(p 1 0), (p 103 0), (p 446 0), p0, p0, p0, p0, (i 400000), (i 0), (i 0), (i 0), (i 0), (i 0), s0] 1 false true
noncomputable def k41 : Blk := .cells [(i 0), (i 9), (i 10), (.int .u64 1023)] 1 false true
noncomputable def k42 : Blk := .cells [(i 444), (i 296), (i 444), (i 296), (i 0), (i 3), (i 1480)] 1 false true
noncomputable def k43 : Blk := .cells [(.str ⟨#[108, 48]⟩), (.int .u32 40), (i 100), (p 329 0), (p 330 0), tt, (i 660000), ff, ff, (i 0), (.str ⟨#[108, 49]⟩), (.int .u32 41), (i 200), (p 334 0), (p 335 0), tt, (i 660000), ff, ff, (i 0)] 10 true true
noncomputable def k44 : Blk := .cells [(i 0), ff, (i 400000), ff] 2 false true
noncomputable def k45 : Blk := .cells [(su 10996 1 0), (p 444 0), (i 0)] 1 false true
noncomputable def k46 : Blk := .cells [(.int .u32 2), (i 1), (i 1), (i 1), (i 8), (i 810), (i 9), (i 810), (i 0)] 1 false true
noncomputable def k47 : Blk := .cells (bs [128, 96, 0, 4, 0, 0, 1, 194, 0, 0, 0, 2, 1, 0, 0, 0, 0, 0, 0, 0, 0, 0, 0, 0, 0, 0, 0, 0, 0, 0, 0, 0, 0, 0, 0, 0, 0, 0, 0, 0, 0, 0, 0, 0, 0, 0, 0, 0, 0, 0, 0, 0, 0, 0, 0, 0, 0, 0, 0, 0, 0, 0, 0, 0, 0, 0, 0, 0, 0, 0, 0, 0, 0, 0, 0, 0, 0, 0, 0, 0, 0, 0, 0, 0, 0, 0, 0, 0, 0, 0, 0, 0, 0, 0, 0, 0, 0, 0, 0, 0, 0, 0, 0, 0, 0, 0, 0, 0, 0, 0, 0, 0]) 1 true true
noncomputable def k48 : Blk := .cells (bs [128, 96, 0, 5, 0, 0, 2, 28, 0, 0, 0, 2, 1, 0, 0, 0, 0, 0, 0, 0, 0, 0, 0, 0, 0, 0, 0, 0, 0, 0, 0, 0, 0, 0, 0, 0, 0, 0, 0, 0, 0, 0, 0, 0, 0, 0, 0, 0, 0, 0, 0, 0, 0, 0, 0, 0, 0, 0, 0, 0, 0, 0, 0, 0, 0, 0, 0, 0, 0, 0, 0, 0, 0, 0, 0, 0, 0, 0, 0, 0, 0, 0, 0, 0, 0, 0, 0, 0, 0, 0, 0, 0, 0, 0, 0, 0, 0, 0, 0, 0, 0, 0, 0, 0, 0, 0, 0, 0, 0, 0, 0, 0]) 1 true true
noncomputable def k49 : Blk := .cells (bs [128, 96, 0, 6, 0, 0, 2, 118, 0, 0, 0, 2, 1, 0, 0, 0, 0, 0, 0, 0, 0, 0, 0, 0, 0, 0, 0, 0, 0, 0, 0, 0, 0, 0, 0, 0, 0, 0, 0, 0, 0, 0, 0, 0, 0, 0, 0, 0, 0, 0, 0, 0, 0, 0, 0, 0, 0, 0, 0, 0, 0, 0, 0, 0, 0, 0, 0, 0, 0, 0, 0, 0, 0, 0, 0, 0, 0, 0, 0, 0, 0, 0, 0, 0, 0, 0, 0, 0, 0, 0, 0, 0, 0, 0, 0, 0, 0, 0, 0, 0, 0, 0, 0, 0, 0, 0, 0, 0, 0, 0, 0, 0]) 1 true true
noncomputable def k50 : Blk := .cells (bs [128, 96, 0, 7, 0, 0, 2, 208, 0, 0, 0, 2, 1, 0, 0, 0, 0, 0, 0, 0, 0, 0, 0, 0, 0, 0, 0, 0, 0, 0, 0, 0, 0, 0, 0, 0, 0, 0, 0, 0, 0, 0, 0, 0, 0, 0, 0, 0, 0, 0, 0, 0, 0, 0, 0, 0, 0, 0, 0, 0, 0, 0, 0, 0, 0, 0, 0, 0, 0, 0, 0, 0, 0, 0, 0, 0, 0, 0, 0, 0, 0, 0, 0, 0, 0, 0, 0, 0, 0, 0, 0, 0, 0, 0, 0, 0, 0, 0, 0, 0, 0, 0, 0, 0, 0, 0, 0, 0, 0, 0, 0, 0]) 1 true true
noncomputable def k51 : Blk := .cells (bs [128, 96, 0, 8, 0, 0, 3, 42, 0, 0, 0, 2, 1, 0, 0, 0, 0, 0, 0, 0, 0, 0, 0, 0, 0, 0, 0, 0, 0, 0, 0, 0, 0, 0, 0, 0, 0, 0, 0, 0, 0, 0, 0, 0, 0, 0, 0, 0, 0, 0, 0, 0, 0, 0, 0, 0, 0, 0, 0, 0, 0, 0, 0, 0, 0, 0, 0, 0, 0, 0, 0, 0, 0, 0, 0, 0, 0, 0, 0, 0, 0, 0, 0, 0, 0, 0, 0, 0, 0, 0, 0, 0, 0, 0, 0, 0, 0, 0, 0, 0, 0, 0, 0, 0, 0, 0, 0, 0, 0, 0, 0, 0]) 1 true true
noncomputable def k52 : Blk := .cells [(su 10994 0 112)] 1 true true
noncomputable def k53 : Blk := .cells [(i 0), ff, (su 960 0 12), (i 0), ff, (su 1380 0 12), (i 1), ff, (su 2346 0 112), (i 1), ff, (su 3427 0 112), (i 1), ff, (su 4508 0 112), (i 1), ff, (su 5589 0 112), (i 1), ff, (su 6670 0 112), (i 1), ff, (su 7751 0 112), (i 1), ff, (su 8832 0 112), (i 1), ff, (su 9913 0 112), (i 1), ff, (su 10994 0 112)] 3 true true
noncomputable def k54 : Blk := .cells [(p 1 0), (p 103 0), (p 446 0), p0, p0, p0, p0, (i 600000), (i 0), (i 0), (i 0), (i 0), (i 0), s0] 1 false true
noncomputable def k55 : Blk := .cells [(i 0), (i 12), (i 13), (.int .u64 8191)] 1 false true
noncomputable def k56 : Blk := .cells [(i 444), (i 296), (i 444), (i 296), (i 444), (i 4), (i 1924)] 1 false true
noncomputable def k57 : Blk := .cells [(i 0), (i 14), (i 15), (.int .u64 32767)] 1 false true
noncomputable def k58 : Blk := .cells [(i 296), (i 296), (i 444), (i 296), (i 444), (i 5), (i 2220)] 1 false true
noncomputable def k59 : Blk := .cells [(.str ⟨#[108, 48]⟩), (.int .u32 40), (i 100), (p 329 0), (p 330 0), tt, (i 780000), tt, ff, (i 3), (.str ⟨#[108, 49]⟩), (.int .u32 41), (i 200), (p 334 0), (p 335 0), tt, (i 860000), ff, ff, (i 0)] 10 true true
noncomputable def k60 : Blk := .cells [(i 0), tt, (i 600000), ff] 2 false true
noncomputable def k61 : Blk := .cells [(su 15580 1 0), (p 444 0), (i 0)] 1 false true
noncomputable def k62 : Blk := .cells [(.int .u32 2), (i 1), (i 1), (i 1), (i 13), (i 1260), (i 14), (i 1260), (i 0)] 1 false true
noncomputable def k63 : Blk := .cells (bs [128, 96, 0, 9, 0, 0, 3, 132, 0, 0, 0, 2, 1, 0, 0, 0, 0, 0, 0, 0, 0, 0, 0, 0, 0, 0, 0, 0, 0, 0, 0, 0, 0, 0, 0, 0, 0, 0, 0, 0, 0, 0, 0, 0, 0, 0, 0, 0, 0, 0, 0, 0, 0, 0, 0, 0, 0, 0, 0, 0, 0, 0, 0, 0, 0, 0, 0, 0, 0, 0, 0, 0, 0, 0, 0, 0, 0, 0, 0, 0, 0, 0, 0, 0, 0, 0, 0, 0, 0, 0, 0, 0, 0, 0, 0, 0, 0, 0, 0, 0, 0, 0, 0, 0, 0, 0, 0, 0, 0, 0, 0, 0]) 1 true true
noncomputable def k64 : Blk := .cells (bs [128, 96, 0, 10, 0, 0, 3, 222, 0, 0, 0, 2, 1, 0, 0, 0, 0, 0, 0, 0, 0, 0, 0, 0, 0, 0, 0, 0, 0, 0, 0, 0, 0, 0, 0, 0, 0, 0, 0, 0, 0, 0, 0, 0, 0, 0, 0, 0, 0, 0, 0, 0, 0, 0, 0, 0, 0, 0, 0, 0, 0, 0, 0, 0, 0, 0, 0, 0, 0, 0, 0, 0, 0, 0, 0, 0, 0, 0, 0, 0, 0, 0, 0, 0, 0, 0, 0, 0, 0, 0, 0, 0, 0, 0, 0, 0, 0, 0, 0, 0, 0, 0, 0, 0, 0, 0, 0, 0, 0, 0, 0, 0]) 1 true true
noncomputable def k65 : Blk := .cells (bs [128, 96, 0, 11, 0, 0, 4, 56, 0, 0, 0, 2, 1, 0, 0, 0, 0, 0, 0, 0, 0, 0, 0, 0, 0, 0, 0, 0, 0, 0, 0, 0, 0, 0, 0, 0, 0, 0, 0, 0, 0, 0, 0, 0, 0, 0, 0, 0, 0, 0, 0, 0, 0, 0, 0, 0, 0, 0, 0, 0, 0, 0, 0, 0, 0, 0, 0, 0, 0, 0, 0, 0, 0, 0, 0, 0, 0, 0, 0, 0, 0, 0, 0, 0, 0, 0, 0, 0, 0, 0, 0, 0, 0, 0, 0, 0, 0, 0, 0, 0, 0, 0, 0, 0, 0, 0, 0, 0, 0, 0, 0, 0]) 1 true true
noncomputable def k66 : Blk := .cells (bs [8, 0, 3, 6, 1, 0]) 1 true true
noncomputable def k67 : Blk := .cells (bs [128, 96, 0, 12, 0, 0, 4, 146, 0, 0, 0, 2, 1, 0, 0, 0, 0, 0, 0, 0, 0, 0, 0, 0, 0, 0, 0, 0, 0, 0, 0, 0, 0, 0, 0, 0, 0, 0, 0, 0, 0, 0, 0, 0, 0, 0, 0, 0, 0, 0, 0, 0, 0, 0, 0, 0, 0, 0, 0, 0, 0, 0, 0, 0, 0, 0, 0, 0, 0, 0, 0, 0, 0, 0, 0, 0, 0, 0, 0, 0, 0, 0, 0, 0, 0, 0, 0, 0, 0, 0, 0, 0, 0, 0, 0, 0, 0, 0, 0, 0, 0, 0, 0, 0, 0, 0, 0, 0, 0, 0, 0, 0]) 1 true true
noncomputable def k68 : Blk := .cells (bs [128, 96, 0, 13, 0, 0, 4, 236, 0, 0, 0, 2, 1, 0, 0, 0, 0, 0, 0, 0, 0, 0, 0, 0, 0, 0, 0, 0, 0, 0, 0, 0, 0, 0, 0, 0, 0, 0, 0, 0, 0, 0, 0, 0, 0, 0, 0, 0, 0, 0, 0, 0, 0, 0, 0, 0, 0, 0, 0, 0, 0, 0, 0, 0, 0, 0, 0, 0, 0, 0, 0, 0, 0, 0, 0, 0, 0, 0, 0, 0, 0, 0, 0, 0, 0, 0, 0, 0, 0, 0, 0, 0, 0, 0, 0, 0, 0, 0, 0, 0, 0, 0, 0, 0, 0, 0, 0, 0, 0, 0, 0, 0]) 1 true true
noncomputable def k69 : Blk := .cells [(su 15578 0 112)] 1 true true
noncomputable def k70 : Blk := .cells [(i 0), ff, (su 960 0 12), (i 0), ff, (su 1380 0 12), (i 1), ff, (su 2346 0 112), (i 1), ff, (su 3427 0 112), (i 1), ff, (su 4508 0 112), (i 1), ff, (su 5589 0 112), (i 1), ff, (su 6670 0 112), (i 1), ff, (su 7751 0 112), (i 1), ff, (su 8832 0 112), (i 1), ff, (su 9913 0 112), (i 1), ff, (su 10994 0 112), (i 1), ff, (su 12075 0 112), (i 1), ff, (su 13156 0 112), (i 1), ff, (su 14237 0 112), (i 0), tt, (su 14750 0 6), (i 1), ff, (su 14955 0 112), (i 1), ff, (su 15578 0 112)] 3 true true
noncomputable def k71 : Blk := .cells [(p 1 0), (p 103 0), (p 446 0), p0, p0, p0, p0, (i 800000), (i 0), (i 0), (i 0), (i 0), (i 0), s0] 1 false true
noncomputable def k72 : Blk := .cells [(i 0), (i 19), (i 20), (.int .u64 1048575)] 1 false true
noncomputable def k73 : Blk := .cells [(i 296), (i 444), (i 296), (i 296), (i 444), (i 7), (i 2960)] 1 false true
noncomputable def k74 : Blk := .cells [(.str ⟨#[108, 48]⟩), (.int .u32 40), (i 100), (p 329 0), (p 330 0), tt, (i 780000), tt, ff, (i 3), (.str ⟨#[108, 49]⟩), (.int .u32 41), (i 200), (p 334 0), (p 335 0), tt, (i 1060000), ff, ff, (i 0)] 10 true true
noncomputable def k75 : Blk := .cells [(i 0), tt, (i 800000), ff] 2 false true
noncomputable def k76 : Blk := .cells [(su 18695 1 0), (p 444 0), (i 0)] 1 false true
noncomputable def k77 : Blk := .cells [(.int .u32 2), (i 1), (i 1), (i 1), (i 18), (i 1710), (i 19), (i 1710), (i 0)] 1 false true
noncomputable def k78 : Blk := .cells (bs [128, 96, 0, 14, 0, 0, 5, 70, 0, 0, 0, 2, 1, 0, 0, 0, 0, 0, 0, 0, 0, 0, 0, 0, 0, 0, 0, 0, 0, 0, 0, 0, 0, 0, 0, 0, 0, 0, 0, 0, 0, 0, 0, 0, 0, 0, 0, 0, 0, 0, 0, 0, 0, 0, 0, 0, 0, 0, 0, 0, 0, 0, 0, 0, 0, 0, 0, 0, 0, 0, 0, 0, 0, 0, 0, 0, 0, 0, 0, 0, 0, 0, 0, 0, 0, 0, 0, 0, 0, 0, 0, 0, 0, 0, 0, 0, 0, 0, 0, 0, 0, 0, 0, 0, 0, 0, 0, 0, 0, 0, 0, 0]) 1 true true
noncomputable def k79 : Blk := .cells (bs [128, 96, 0, 15, 0, 0, 5, 160, 0, 0, 0, 2, 1, 0, 0, 0, 0, 0, 0, 0, 0, 0, 0, 0, 0, 0, 0, 0, 0, 0, 0, 0, 0, 0, 0, 0, 0, 0, 0, 0, 0, 0, 0, 0, 0, 0, 0, 0, 0, 0, 0, 0, 0, 0, 0, 0, 0, 0, 0, 0, 0, 0, 0, 0, 0, 0, 0, 0, 0, 0, 0, 0, 0, 0, 0, 0, 0, 0, 0, 0, 0, 0, 0, 0, 0, 0, 0, 0, 0, 0, 0, 0, 0, 0, 0, 0, 0, 0, 0, 0, 0, 0, 0, 0, 0, 0, 0, 0, 0, 0, 0, 0]) 1 true true
noncomputable def k80 : Blk := .cells (bs [128, 96, 0, 16, 0, 0, 5, 250, 0, 0, 0, 2, 1, 0, 0, 0, 0, 0, 0, 0, 0, 0, 0, 0, 0, 0, 0, 0, 0, 0, 0, 0, 0, 0, 0, 0, 0, 0, 0, 0, 0, 0, 0, 0, 0, 0, 0, 0, 0, 0, 0, 0, 0, 0, 0, 0, 0, 0, 0, 0, 0, 0, 0, 0, 0, 0, 0, 0, 0, 0, 0, 0, 0, 0, 0, 0, 0, 0, 0, 0, 0, 0, 0, 0, 0, 0, 0, 0, 0, 0, 0, 0, 0, 0, 0, 0, 0, 0, 0, 0, 0, 0, 0, 0, 0, 0, 0, 0, 0, 0, 0, 0]) 1 true true
noncomputable def k81 : Blk := .cells (bs [128, 96, 0, 17, 0, 0, 6, 84, 0, 0, 0, 2, 1, 0, 0, 0, 0, 0, 0, 0, 0, 0, 0, 0, 0, 0, 0, 0, 0, 0, 0, 0, 0, 0, 0, 0, 0, 0, 0, 0, 0, 0, 0, 0, 0, 0, 0, 0, 0, 0, 0, 0, 0, 0, 0, 0, 0, 0, 0, 0, 0, 0, 0, 0, 0, 0, 0, 0, 0, 0, 0, 0, 0, 0, 0, 0, 0, 0, 0, 0, 0, 0, 0, 0, 0, 0, 0, 0, 0, 0, 0, 0, 0, 0, 0, 0, 0, 0, 0, 0, 0, 0, 0, 0, 0, 0, 0, 0, 0, 0, 0, 0]) 1 true true
noncomputable def k82 : Blk := .cells (bs [128, 96, 0, 18, 0, 0, 6, 174, 0, 0, 0, 2, 1, 0, 0, 0, 0, 0, 0, 0, 0, 0, 0, 0, 0, 0, 0, 0, 0, 0, 0, 0, 0, 0, 0, 0, 0, 0, 0, 0, 0, 0, 0, 0, 0, 0, 0, 0, 0, 0, 0, 0, 0, 0, 0, 0, 0, 0, 0, 0, 0, 0, 0, 0, 0, 0, 0, 0, 0, 0, 0, 0, 0, 0, 0, 0, 0, 0, 0, 0, 0, 0, 0, 0, 0, 0, 0, 0, 0, 0, 0, 0, 0, 0, 0, 0, 0, 0, 0, 0, 0, 0, 0, 0, 0, 0, 0, 0, 0, 0, 0, 0]) 1 true true
noncomputable def k83 : Blk := .cells [(su 18693 0 112)] 1 true true
noncomputable def k84 : Blk := .cells [(i 0), ff, (su 960 0 12), (i 0), ff, (su 1380 0 12), (i 1), ff, (su 2346 0 112), (i 1), ff, (su 3427 0 112), (i 1), ff, (su 4508 0 112), (i 1), ff, (su 5589 0 112), (i 1), ff, (su 6670 0 112), (i 1), ff, (su 7751 0 112), (i 1), ff, (su 8832 0 112), (i 1), ff, (su 9913 0 112), (i 1), ff, (su 10994 0 112), (i 1), ff, (su 12075 0 112), (i 1), ff, (su 13156 0 112), (i 1), ff, (su 14237 0 112), (i 0), tt, (su 14750 0 6), (i 1), ff, (su 14955 0 112), (i 1), ff, (su 15578 0 112), (i 1), ff, (su 16201 0 112), (i 1), ff, (su 16824 0 112), (i 1), ff, (su 17447 0 112), (i 1), ff, (su 18070 0 112), (i 1), ff, (su 18693 0 112)] 3 true true
noncomputable def A0 : List (Nat × Blk) := [(1, k0), (2, k1), (99, k2), (100, k3), (101, k4), (102, k5), (103, k6), (311, k7), (327, k8), (329, k9), (330, k10), (334, k9), (335, k10), (337, k11), (338, k12), (339, k13), (442, k2), (443, k14), (444, k15), (445, k16), (446, k17), (555, k18), (557, k19), (558, k20), (560, k21)]
noncomputable def A1 : List (Nat × Blk) := [(1, k0), (2, k22), (99, k2), (100, k3), (101, k4), (102, k23), (103, k6), (311, k7), (327, k8), (329, k24), (330, k25), (334, k24), (335, k25), (337, k26), (338, k27), (339, k13), (442, k2), (443, k14), (444, k15), (445, k28), (446, k17), (555, k18), (557, k29), (558, k30), (560, k21), (960, k31), (1380, k32), (1382, k33), (2346, k34), (3427, k35), (4508, k36), (5589, k37), (5591, k38), (5834, k39)]
noncomputable def A2 : List (Nat × Blk) := [(1, k0), (2, k40), (99, k2), (100, k3), (101, k4), (102, k23), (103, k6), (311, k7), (327, k8), (329, k41), (330, k42), (334, k41), (335, k42), (337, k43), (338, k44), (339, k13), (442, k2), (443, k14), (444, k15), (445, k45), (446, k17), (555, k18), (557, k46), (558, k30), (560, k21), (960, k31), (1380, k32), (1382, k33), (2346, k34), (3427, k35), (4508, k36), (5589, k37), (6670, k47), (7751, k48), (8832, k49), (9913, k50), (10994, k51), (10996, k52), (11239, k53)]
noncomputable def A3 : List (Nat × Blk) := [(1, k0), (2, k54), (99, k2), (100, k3), (101, k4), (102, k23), (103, k6), (311, k7), (327, k8), (329, k55), (330, k56), (334, k57), (335, k58), (337, k59), (338, k60), (339, k13), (442, k2), (443, k14), (444, k15), (445, k61), (446, k17), (555, k18), (557, k62), (558, k30), (560, k21), (960, k31), (1380, k32), (1382, k33), (2346, k34), (3427, k35), (4508, k36), (5589, k37), (6670, k47), (7751, k48), (8832, k49), (9913, k50), (10994, k51), (12075, k63), (13156, k64), (14237, k65), (14750, k66), (14955, k67), (15578, k68), (15580, k69), (15792, k70)]
noncomputable def A4 : List (Nat × Blk) := [(1, k0), (2, k71), (99, k2), (100, k3), (101, k4), (102, k23), (103, k6), (311, k7), (327, k8), (329, k55), (330, k56), (334, k72), (335, k73), (337, k74), (338, k75), (339, k13), (442, k2), (443, k14), (444, k15), (445, k76), (446, k17), (555, k18), (557, k77), (558, k30), (560, k21), (960, k31), (1380, k32), (1382, k33), (2346, k34), (3427, k35), (4508, k36), (5589, k37), (6670, k47), (7751, k48), (8832, k49), (9913, k50), (10994, k51), (12075, k63), (13156, k64), (14237, k65), (14750, k66), (14955, k67), (15578, k68), (16201, k78), (16824, k79), (17447, k80), (18070, k81), (18693, k82), (18695, k83), (18907, k84)]
noncomputable def A5 : List (Nat × Blk) := [(1, k0), (2, k71), (99, k2), (100, k3), (101, k4), (102, k23), (103, k6), (311, k7), (327, k8), (329, k55), (330, k56), (334, k72), (335, k73), (337, k74), (338, k75), (339, k13), (442, k2), (443, k14), (444, k15), (445, k76), (446, k17), (555, k18), (557, k77), (558, k30), (560, k21), (960, k31), (1380, k32), (1382, k33), (2346, k34), (3427, k35), (4508, k36), (5589, k37), (6670, k47), (7751, k48), (8832, k49), (9913, k50), (10994, k51), (12075, k63), (13156, k64), (14237, k65), (14750, k66), (14955, k67), (15578, k68), (16201, k78), (16824, k79), (17447, k80), (18070, k81), (18693, k82), (18695, k83), (18907, k84)]
theorem aw0 {H : AH} (h : Has H 1 [(0, .cells [i 100000] 1 false true)]) : ∃ H', CS S0 5 [i 2, i 500, sk 0 0 1 1] H = some ((p 2 0), H') ∧ Has H' 671 A0 :=
  ck_run (KU_sm 5 _) (by kernel_rfl) h
theorem aw1 {H : AH} (h : Has H 671 A0) : ∃ H', rnd (g34_6 AHp (CS S0) loopW (p 2 0) (i 0) (i 20)) 5 [s0, i 0] H = some (.nrm [(su 5834 0 6), (i 5)], H') ∧ Has H' 6073 A1 :=
  ck_runO (Sm.rnd (fun ws => s34_6 UHr KU_sm (loop_sm 1000) _ _ _ ws) 5 _) (m := rnd (g34_6 UHp KU (loopU 1000) (p 2 0) (i 0) (i 20)) 5 [s0, i 0]) (by kernel_rfl) h
theorem aw2 {H : AH} (h : Has H 6073 A1) : ∃ H', rnd (g34_6 AHp (CS S0) loopW (p 2 0) (i 0) (i 20)) 5 [(su 5834 0 6), (i 5)] H = some (.nrm [(su 11239 0 11), (i 10)], H') ∧ Has H' 11478 A2 :=
  ck_runO (Sm.rnd (fun ws => s34_6 UHr KU_sm (loop_sm 1000) _ _ _ ws) 5 _) (m := rnd (g34_6 UHp KU (loopU 1000) (p 2 0) (i 0) (i 20)) 5 [(su 5834 0 6), (i 5)]) (by kernel_rfl) h
theorem aw3 {H : AH} (h : Has H 11478 A2) : ∃ H', rnd (g34_6 AHp (CS S0) loopW (p 2 0) (i 0) (i 20)) 5 [(su 11239 0 11), (i 10)] H = some (.nrm [(su 15792 0 17), (i 15)], H') ∧ Has H' 16000 A3 :=
  ck_runO (Sm.rnd (fun ws => s34_6 UHr KU_sm (loop_sm 1000) _ _ _ ws) 5 _) (m := rnd (g34_6 UHp KU (loopU 1000) (p 2 0) (i 0) (i 20)) 5 [(su 11239 0 11), (i 10)]) (by kernel_rfl) h
theorem aw4 {H : AH} (h : Has H 16000 A3) : ∃ H', rnd (g34_6 AHp (CS S0) loopW (p 2 0) (i 0) (i 20)) 5 [(su 15792 0 17), (i 15)] H = some (.nrm [(su 18907 0 22), (i 20)], H') ∧ Has H' 19115 A4 :=
  ck_runO (Sm.rnd (fun ws => s34_6 UHr KU_sm (loop_sm 1000) _ _ _ ws) 5 _) (m := rnd (g34_6 UHp KU (loopU 1000) (p 2 0) (i 0) (i 20)) 5 [(su 15792 0 17), (i 15)]) (by kernel_rfl) h
theorem aw5 {H : AH} (h : Has H 19115 A4) : ∃ H', CS S0 72 [(su 18907 0 22)] H = some ((sk 18907 0 22 22), H') ∧ Has H' 19115 A5 :=
  ck_run (KU_sm 72 _) (by kernel_rfl) h
theorem awZ {H : AH} (h : Has H 19115 A5) : ∃ H', g12_2 AHp (CS S0) loopW (p 2 0) (sk 18907 0 22 22) H = some (.ret [tt], H') := by
  obtain ⟨H', h1, _⟩ := ck_runO (s12_2 UHr KU_sm (loop_sm 1000) (p 2 0) (sk 18907 0 22 22)) (o := .ret [tt]) (nx' := 19485) (L' := []) (by kernel_rfl) h
  exact ⟨H', h1⟩
end Go.Proofs.YtchikbhlojpolaaGreat
