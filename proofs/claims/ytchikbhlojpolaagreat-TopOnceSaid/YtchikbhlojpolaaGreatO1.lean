/- TopOnce: its rounds where each packet comes 1 times more, each reckoned by the kernel. -/
import Derived.Test.YtchikbhlojpolaaGreatOS
namespace Go.Proofs.YtchikbhlojpolaaGreat
open Go Go.Ab
namespace O1
noncomputable def k0 : Blk := .cells [tt, (i 1073741824), (su 221 0 1), s0, tt, (i 1048576), s0, (su 445 0 1), ff, (i 0), s0, s0, ff, (i 0), s0, s0, ff, (i 0), s0, s0, ff, (i 0), s0, s0] 1 false true
noncomputable def k1 : Blk := .cells [(p 2 0), (p 104 0), (p 337 0), p0, p0, p0, p0, (i 0), (i 0), (i 0), (i 0), (i 0), (i 0), s0] 1 false true
noncomputable def k2 : Blk := .cells [s0] 1 false true
noncomputable def k3 : Blk := .cells [(i 1073741824), (.int .u64 0), ff, s0, (p 100 0)] 1 false true
noncomputable def k4 : Blk := .cells [(i 1073741824), (i 6000), (i 6000000000)] 1 false true
noncomputable def k5 : Blk := .cells [s0, (p 102 0), (i 0)] 1 false true
noncomputable def k6 : Blk := .cells [(p 101 0), (p 103 0), (p 224 0), (p 231 0), s0, ff] 1 false true
noncomputable def k7 : Blk := .cells [(.str ⟨#[108, 48]⟩), (.int .u32 40), (i 100)] 3 true true
noncomputable def k8 : Blk := .cells [(su 229 0 1)] 1 false true
noncomputable def k9 : Blk := .cells [(i (-1)), (i (-1)), (i 0), (.int .u64 0)] 1 false true
noncomputable def k10 : Blk := .cells [(i 0), (i 0), (i 0), (i 0), (i 0), (i 0), (i 0)] 1 false true
noncomputable def k11 : Blk := .cells [(.str ⟨#[108, 48]⟩), (.int .u32 40), (i 100), (p 226 0), (p 227 0), ff, (i 0), ff, ff, (i 0)] 10 true true
noncomputable def k12 : Blk := .cells [(i 0), ff] 2 false true
noncomputable def k13 : Blk := .cells [(sk 230 0 1 1)] 1 false true
noncomputable def k14 : Blk := .cells [(i 1048576), (.int .u64 0), ff, s0, (p 333 0)] 1 false true
noncomputable def k15 : Blk := .cells [(i 1048576), (i 6000), (i 6000000000)] 1 false true
noncomputable def k16 : Blk := .cells [s0, (p 335 0), (i 0)] 1 false true
noncomputable def k17 : Blk := .cells [(p 334 0), (p 336 0), p0, p0, (su 450 0 1), ff] 1 false true
noncomputable def k18 : Blk := .cells [(i 0), (i 500), (i 0)] 3 true true
noncomputable def k19 : Blk := .cells [(.int .u32 2), (i (-1)), (i (-1)), (i 0), (i (-1)), (i 0), (i 0), (i 0), (i 0)] 1 false true
noncomputable def k20 : Blk := .cells [(i 0), (.int .u32 2), (p 447 0), (i 500), (i 0), (i (-1))] 1 false true
noncomputable def k21 : Blk := .cells [(p 448 0)] 1 true true
noncomputable def k22 : Blk := .cells [(p 2 0), (p 104 0), (p 337 0), p0, p0, p0, p0, (i 30000), (i 0), (i 1), (i 0), (i 0), (i 0), s0] 1 false true
noncomputable def k23 : Blk := .cells [(su 839 1 0), (p 102 0), (i 0)] 1 false true
noncomputable def k24 : Blk := .cells [(i 0), (i 0), (i 1), (.int .u64 1)] 1 false true
noncomputable def k25 : Blk := .cells [(i 50), (i 0), (i 0), (i 0), (i 0), (i 0), (i 50)] 1 false true
noncomputable def k26 : Blk := .cells [(.str ⟨#[108, 48]⟩), (.int .u32 40), (i 100), (p 226 0), (p 227 0), tt, (i 300000), ff, ff, (i 0)] 10 true true
noncomputable def k27 : Blk := .cells [(i 30000), ff] 2 false true
noncomputable def k28 : Blk := .cells [(.int .u32 2), (i (-1)), (i 0), (i 0), (i (-1)), (i 0), (i 0), (i 0), (i 0)] 1 false true
noncomputable def k29 : Blk := .cells [(i 0), (.int .u32 2), (p 447 0), (i 500), (i 0), (i 0)] 1 false true
noncomputable def k30 : Blk := .cells (bs [129, 206, 0, 2, 0, 0, 0, 1, 0, 0, 0, 40]) 1 true true
noncomputable def k31 : Blk := .cells [(su 837 0 12)] 1 true true
noncomputable def k32 : Blk := .cells [(p 2 0), (p 104 0), (p 337 0), p0, p0, p0, p0, (i 60000), (i 0), (i 2), (i 0), (i 0), (i 0), s0] 1 false true
noncomputable def k33 : Blk := .cells [(i 0), (i 1), (i 2), (.int .u64 3)] 1 false true
noncomputable def k34 : Blk := .cells [(i 100), (i 0), (i 0), (i 0), (i 0), (i 0), (i 100)] 1 false true
noncomputable def k35 : Blk := .cells [(.str ⟨#[108, 48]⟩), (.int .u32 40), (i 100), (p 226 0), (p 227 0), tt, (i 330000), ff, ff, (i 0)] 10 true true
noncomputable def k36 : Blk := .cells [(i 60000), ff] 2 false true
noncomputable def k37 : Blk := .cells [(su 1539 1 0), (p 335 0), (i 0)] 1 false true
noncomputable def k38 : Blk := .cells [(.int .u32 2), (i 0), (i 0), (i 1), (i 0), (i 1), (i 1), (i 1), (i 0)] 1 false true
noncomputable def k39 : Blk := .cells (bs [128, 96, 0, 0, 0, 0, 0, 1, 0, 0, 0, 2, 1, 1]) 1 true true
noncomputable def k40 : Blk := .cells [(su 1537 0 14)] 1 true true
noncomputable def k41 : Blk := .cells [(p 2 0), (p 104 0), (p 337 0), p0, p0, p0, p0, (i 90000), (i 0), (i 3), (i 0), (i 0), (i 0), s0] 1 false true
noncomputable def k42 : Blk := .cells [(i 0), (i 2), (i 3), (.int .u64 7)] 1 false true
noncomputable def k43 : Blk := .cells [(i 150), (i 0), (i 0), (i 0), (i 0), (i 0), (i 150)] 1 false true
noncomputable def k44 : Blk := .cells [(.str ⟨#[108, 48]⟩), (.int .u32 40), (i 100), (p 226 0), (p 227 0), tt, (i 360000), ff, ff, (i 0)] 10 true true
noncomputable def k45 : Blk := .cells [(i 90000), ff] 2 false true
noncomputable def k46 : Blk := .cells [(su 2337 1 0), (p 335 0), (i 0)] 1 false true
noncomputable def k47 : Blk := .cells [(.int .u32 2), (i 0), (i 0), (i 1), (i 1), (i 2), (i 2), (i 2), (i 0)] 1 false true
noncomputable def k48 : Blk := .cells (bs [128, 96, 0, 1, 0, 0, 0, 2, 0, 0, 0, 2, 1, 2]) 1 true true
noncomputable def k49 : Blk := .cells [(su 2335 0 14)] 1 true true
noncomputable def k50 : Blk := .cells [(p 2 0), (p 104 0), (p 337 0), p0, p0, p0, p0, (i 120000), (i 0), (i 4), (i 0), (i 0), (i 0), s0] 1 false true
noncomputable def k51 : Blk := .cells [(i 0), (i 3), (i 4), (.int .u64 15)] 1 false true
noncomputable def k52 : Blk := .cells [(i 200), (i 0), (i 0), (i 0), (i 0), (i 0), (i 200)] 1 false true
noncomputable def k53 : Blk := .cells [(.str ⟨#[108, 48]⟩), (.int .u32 40), (i 100), (p 226 0), (p 227 0), tt, (i 390000), ff, ff, (i 0)] 10 true true
noncomputable def k54 : Blk := .cells [(i 120000), ff] 2 false true
noncomputable def k55 : Blk := .cells [(su 3135 1 0), (p 335 0), (i 0)] 1 false true
noncomputable def k56 : Blk := .cells [(.int .u32 2), (i 0), (i 0), (i 1), (i 2), (i 3), (i 3), (i 3), (i 0)] 1 false true
noncomputable def k57 : Blk := .cells (bs [128, 96, 0, 2, 0, 0, 0, 3, 0, 0, 0, 2, 1, 3]) 1 true true
noncomputable def k58 : Blk := .cells [(su 3133 0 14)] 1 true true
noncomputable def k59 : Blk := .cells [(p 2 0), (p 104 0), (p 337 0), p0, p0, p0, p0, (i 150000), (i 0), (i 5), (i 0), (i 0), (i 0), s0] 1 false true
noncomputable def k60 : Blk := .cells [(i 0), (i 4), (i 5), (.int .u64 31)] 1 false true
noncomputable def k61 : Blk := .cells [(i 200), (i 50), (i 0), (i 0), (i 0), (i 1), (i 250)] 1 false true
noncomputable def k62 : Blk := .cells [(.str ⟨#[108, 48]⟩), (.int .u32 40), (i 100), (p 226 0), (p 227 0), tt, (i 420000), ff, ff, (i 0)] 10 true true
noncomputable def k63 : Blk := .cells [(i 150000), ff] 2 false true
noncomputable def k64 : Blk := .cells [(su 3933 1 0), (p 335 0), (i 0)] 1 false true
noncomputable def k65 : Blk := .cells [(.int .u32 2), (i 0), (i 0), (i 1), (i 3), (i 4), (i 4), (i 4), (i 0)] 1 false true
noncomputable def k66 : Blk := .cells (bs [128, 96, 0, 3, 0, 0, 0, 4, 0, 0, 0, 2, 1, 4]) 1 true true
noncomputable def k67 : Blk := .cells [(su 3931 0 14)] 1 true true
noncomputable def k68 : Blk := .cells [(p 2 0), (p 104 0), (p 337 0), p0, p0, p0, p0, (i 180000), (i 0), (i 6), (i 0), (i 0), (i 0), s0] 1 false true
noncomputable def k69 : Blk := .cells [(i 0), (i 5), (i 6), (.int .u64 63)] 1 false true
noncomputable def k70 : Blk := .cells [(i 200), (i 100), (i 0), (i 0), (i 0), (i 1), (i 300)] 1 false true
noncomputable def k71 : Blk := .cells [(.str ⟨#[108, 48]⟩), (.int .u32 40), (i 100), (p 226 0), (p 227 0), tt, (i 450000), ff, ff, (i 0)] 10 true true
noncomputable def k72 : Blk := .cells [(i 180000), ff] 2 false true
noncomputable def k73 : Blk := .cells [(su 4731 1 0), (p 335 0), (i 0)] 1 false true
noncomputable def k74 : Blk := .cells [(.int .u32 2), (i 0), (i 0), (i 1), (i 4), (i 5), (i 5), (i 5), (i 0)] 1 false true
noncomputable def k75 : Blk := .cells (bs [128, 96, 0, 4, 0, 0, 0, 5, 0, 0, 0, 2, 1, 5]) 1 true true
noncomputable def k76 : Blk := .cells [(su 4729 0 14)] 1 true true
noncomputable def k77 : Blk := .cells [(p 2 0), (p 104 0), (p 337 0), p0, p0, p0, p0, (i 210000), (i 0), (i 7), (i 0), (i 0), (i 0), s0] 1 false true
noncomputable def k78 : Blk := .cells [(i 0), (i 6), (i 7), (.int .u64 127)] 1 false true
noncomputable def k79 : Blk := .cells [(i 200), (i 150), (i 0), (i 0), (i 0), (i 1), (i 350)] 1 false true
noncomputable def k80 : Blk := .cells [(.str ⟨#[108, 48]⟩), (.int .u32 40), (i 100), (p 226 0), (p 227 0), tt, (i 480000), ff, ff, (i 0)] 10 true true
noncomputable def k81 : Blk := .cells [(i 210000), ff] 2 false true
noncomputable def k82 : Blk := .cells [(su 5529 1 0), (p 335 0), (i 0)] 1 false true
noncomputable def k83 : Blk := .cells [(.int .u32 2), (i 0), (i 0), (i 1), (i 5), (i 6), (i 6), (i 6), (i 0)] 1 false true
noncomputable def k84 : Blk := .cells (bs [128, 96, 0, 5, 0, 0, 0, 6, 0, 0, 0, 2, 1, 6]) 1 true true
noncomputable def k85 : Blk := .cells [(su 5527 0 14)] 1 true true
noncomputable def k86 : Blk := .cells [(p 2 0), (p 104 0), (p 337 0), p0, p0, p0, p0, (i 240000), (i 0), (i 8), (i 0), (i 0), (i 0), s0] 1 false true
noncomputable def k87 : Blk := .cells [(i 0), (i 7), (i 8), (.int .u64 255)] 1 false true
noncomputable def k88 : Blk := .cells [(i 200), (i 150), (i 50), (i 0), (i 0), (i 2), (i 400)] 1 false true
noncomputable def k89 : Blk := .cells [(.str ⟨#[108, 48]⟩), (.int .u32 40), (i 100), (p 226 0), (p 227 0), tt, (i 510000), ff, ff, (i 0)] 10 true true
noncomputable def k90 : Blk := .cells [(i 240000), ff] 2 false true
noncomputable def k91 : Blk := .cells [(su 6327 1 0), (p 335 0), (i 0)] 1 false true
noncomputable def k92 : Blk := .cells [(.int .u32 2), (i 0), (i 0), (i 1), (i 6), (i 7), (i 7), (i 7), (i 0)] 1 false true
noncomputable def k93 : Blk := .cells (bs [128, 96, 0, 6, 0, 0, 0, 7, 0, 0, 0, 2, 1, 7]) 1 true true
noncomputable def k94 : Blk := .cells [(su 6325 0 14)] 1 true true
noncomputable def k95 : Blk := .cells [(p 2 0), (p 104 0), (p 337 0), p0, p0, p0, p0, (i 270000), (i 0), (i 9), (i 0), (i 0), (i 0), s0] 1 false true
noncomputable def k96 : Blk := .cells [(i 0), (i 8), (i 9), (.int .u64 511)] 1 false true
noncomputable def k97 : Blk := .cells [(i 200), (i 150), (i 100), (i 0), (i 0), (i 2), (i 450)] 1 false true
noncomputable def k98 : Blk := .cells [(.str ⟨#[108, 48]⟩), (.int .u32 40), (i 100), (p 226 0), (p 227 0), tt, (i 540000), ff, ff, (i 0)] 10 true true
noncomputable def k99 : Blk := .cells [(i 270000), ff] 2 false true
noncomputable def k100 : Blk := .cells [(su 7125 1 0), (p 335 0), (i 0)] 1 false true
noncomputable def k101 : Blk := .cells [(.int .u32 2), (i 0), (i 0), (i 1), (i 7), (i 8), (i 8), (i 8), (i 0)] 1 false true
noncomputable def k102 : Blk := .cells (bs [128, 96, 0, 7, 0, 0, 0, 8, 0, 0, 0, 2, 1, 8]) 1 true true
noncomputable def k103 : Blk := .cells [(su 7123 0 14)] 1 true true
noncomputable def k104 : Blk := .cells [(p 2 0), (p 104 0), (p 337 0), p0, p0, p0, p0, (i 300000), (i 0), (i 10), (i 0), (i 0), (i 0), s0] 1 false true
noncomputable def k105 : Blk := .cells [(i 0), (i 9), (i 10), (.int .u64 1023)] 1 false true
noncomputable def k106 : Blk := .cells [(i 200), (i 150), (i 150), (i 0), (i 0), (i 2), (i 500)] 1 false true
noncomputable def k107 : Blk := .cells [(.str ⟨#[108, 48]⟩), (.int .u32 40), (i 100), (p 226 0), (p 227 0), tt, (i 570000), ff, ff, (i 0)] 10 true true
noncomputable def k108 : Blk := .cells [(i 300000), ff] 2 false true
noncomputable def k109 : Blk := .cells [(su 7923 1 0), (p 335 0), (i 0)] 1 false true
noncomputable def k110 : Blk := .cells [(.int .u32 2), (i 0), (i 0), (i 1), (i 8), (i 9), (i 9), (i 9), (i 0)] 1 false true
noncomputable def k111 : Blk := .cells (bs [128, 96, 0, 8, 0, 0, 0, 9, 0, 0, 0, 2, 1, 9]) 1 true true
noncomputable def k112 : Blk := .cells [(su 7921 0 14)] 1 true true
noncomputable def k113 : Blk := .cells [(p 2 0), (p 104 0), (p 337 0), p0, p0, p0, p0, (i 330000), (i 0), (i 11), (i 0), (i 0), (i 0), s0] 1 false true
noncomputable def k114 : Blk := .cells [(i 0), (i 10), (i 11), (.int .u64 2047)] 1 false true
noncomputable def k115 : Blk := .cells [(i 200), (i 150), (i 150), (i 50), (i 0), (i 3), (i 550)] 1 false true
noncomputable def k116 : Blk := .cells [(.str ⟨#[108, 48]⟩), (.int .u32 40), (i 100), (p 226 0), (p 227 0), tt, (i 600000), ff, ff, (i 0)] 10 true true
noncomputable def k117 : Blk := .cells [(i 330000), ff] 2 false true
noncomputable def k118 : Blk := .cells [(su 8721 1 0), (p 335 0), (i 0)] 1 false true
noncomputable def k119 : Blk := .cells [(.int .u32 2), (i 0), (i 0), (i 1), (i 9), (i 10), (i 10), (i 10), (i 0)] 1 false true
noncomputable def k120 : Blk := .cells (bs [128, 96, 0, 9, 0, 0, 0, 10, 0, 0, 0, 2, 1, 10]) 1 true true
noncomputable def k121 : Blk := .cells [(su 8719 0 14)] 1 true true
noncomputable def k122 : Blk := .cells [(p 2 0), (p 104 0), (p 337 0), p0, p0, p0, p0, (i 360000), (i 0), (i 12), (i 0), (i 0), (i 0), s0] 1 false true
noncomputable def k123 : Blk := .cells [(i 0), (i 11), (i 12), (.int .u64 4095)] 1 false true
noncomputable def k124 : Blk := .cells [(i 200), (i 150), (i 150), (i 100), (i 0), (i 3), (i 600)] 1 false true
noncomputable def k125 : Blk := .cells [(.str ⟨#[108, 48]⟩), (.int .u32 40), (i 100), (p 226 0), (p 227 0), tt, (i 630000), ff, ff, (i 0)] 10 true true
noncomputable def k126 : Blk := .cells [(i 360000), ff] 2 false true
noncomputable def k127 : Blk := .cells [(su 9519 1 0), (p 335 0), (i 0)] 1 false true
noncomputable def k128 : Blk := .cells [(.int .u32 2), (i 0), (i 0), (i 1), (i 10), (i 11), (i 11), (i 11), (i 0)] 1 false true
noncomputable def k129 : Blk := .cells (bs [128, 96, 0, 10, 0, 0, 0, 11, 0, 0, 0, 2, 1, 11]) 1 true true
noncomputable def k130 : Blk := .cells [(su 9517 0 14)] 1 true true
noncomputable def k131 : Blk := .cells [(p 2 0), (p 104 0), (p 337 0), p0, p0, p0, p0, (i 390000), (i 0), (i 13), (i 0), (i 0), (i 0), s0] 1 false true
noncomputable def k132 : Blk := .cells [(i 0), (i 12), (i 13), (.int .u64 8191)] 1 false true
noncomputable def k133 : Blk := .cells [(i 200), (i 150), (i 150), (i 150), (i 0), (i 3), (i 650)] 1 false true
noncomputable def k134 : Blk := .cells [(.str ⟨#[108, 48]⟩), (.int .u32 40), (i 100), (p 226 0), (p 227 0), tt, (i 660000), ff, ff, (i 0)] 10 true true
noncomputable def k135 : Blk := .cells [(i 390000), ff] 2 false true
noncomputable def k136 : Blk := .cells [(su 10317 1 0), (p 335 0), (i 0)] 1 false true
noncomputable def k137 : Blk := .cells [(.int .u32 2), (i 0), (i 0), (i 1), (i 11), (i 12), (i 12), (i 12), (i 0)] 1 false true
noncomputable def k138 : Blk := .cells (bs [128, 96, 0, 11, 0, 0, 0, 12, 0, 0, 0, 2, 1, 12]) 1 true true
noncomputable def k139 : Blk := .cells [(su 10315 0 14)] 1 true true
noncomputable def k140 : Blk := .cells [(p 2 0), (p 104 0), (p 337 0), p0, p0, p0, p0, (i 420000), (i 0), (i 14), (i 0), (i 0), (i 0), s0] 1 false true
noncomputable def k141 : Blk := .cells [(i 0), (i 13), (i 14), (.int .u64 16383)] 1 false true
noncomputable def k142 : Blk := .cells [(i 200), (i 150), (i 150), (i 200), (i 0), (i 3), (i 700)] 1 false true
noncomputable def k143 : Blk := .cells [(.str ⟨#[108, 48]⟩), (.int .u32 40), (i 100), (p 226 0), (p 227 0), tt, (i 690000), ff, ff, (i 0)] 10 true true
noncomputable def k144 : Blk := .cells [(i 420000), ff] 2 false true
noncomputable def k145 : Blk := .cells [(su 11115 1 0), (p 335 0), (i 0)] 1 false true
noncomputable def k146 : Blk := .cells [(.int .u32 2), (i 0), (i 0), (i 1), (i 12), (i 13), (i 13), (i 13), (i 0)] 1 false true
noncomputable def k147 : Blk := .cells (bs [128, 96, 0, 12, 0, 0, 0, 13, 0, 0, 0, 2, 1, 13]) 1 true true
noncomputable def k148 : Blk := .cells [(su 11113 0 14)] 1 true true
noncomputable def k149 : Blk := .cells [(p 2 0), (p 104 0), (p 337 0), p0, p0, p0, p0, (i 450000), (i 0), (i 15), (i 0), (i 0), (i 0), s0] 1 false true
noncomputable def k150 : Blk := .cells [(i 0), (i 14), (i 15), (.int .u64 32767)] 1 false true
noncomputable def k151 : Blk := .cells [(i 200), (i 150), (i 150), (i 200), (i 50), (i 4), (i 750)] 1 false true
noncomputable def k152 : Blk := .cells [(.str ⟨#[108, 48]⟩), (.int .u32 40), (i 100), (p 226 0), (p 227 0), tt, (i 720000), ff, ff, (i 0)] 10 true true
noncomputable def k153 : Blk := .cells [(i 450000), ff] 2 false true
noncomputable def k154 : Blk := .cells [(su 11913 1 0), (p 335 0), (i 0)] 1 false true
noncomputable def k155 : Blk := .cells [(.int .u32 2), (i 0), (i 0), (i 1), (i 13), (i 14), (i 14), (i 14), (i 0)] 1 false true
noncomputable def k156 : Blk := .cells (bs [128, 96, 0, 13, 0, 0, 0, 14, 0, 0, 0, 2, 1, 14]) 1 true true
noncomputable def k157 : Blk := .cells [(su 11911 0 14)] 1 true true
noncomputable def k158 : Blk := .cells [(p 2 0), (p 104 0), (p 337 0), p0, p0, p0, p0, (i 480000), (i 0), (i 16), (i 0), (i 0), (i 0), s0] 1 false true
noncomputable def k159 : Blk := .cells [(i 0), (i 15), (i 16), (.int .u64 65535)] 1 false true
noncomputable def k160 : Blk := .cells [(i 200), (i 150), (i 150), (i 200), (i 100), (i 4), (i 800)] 1 false true
noncomputable def k161 : Blk := .cells [(.str ⟨#[108, 48]⟩), (.int .u32 40), (i 100), (p 226 0), (p 227 0), tt, (i 750000), ff, ff, (i 0)] 10 true true
noncomputable def k162 : Blk := .cells [(i 480000), ff] 2 false true
noncomputable def k163 : Blk := .cells [(su 12711 1 0), (p 335 0), (i 0)] 1 false true
noncomputable def k164 : Blk := .cells [(.int .u32 2), (i 0), (i 0), (i 1), (i 14), (i 15), (i 15), (i 15), (i 0)] 1 false true
noncomputable def k165 : Blk := .cells (bs [128, 96, 0, 14, 0, 0, 0, 15, 0, 0, 0, 2, 1, 15]) 1 true true
noncomputable def k166 : Blk := .cells [(su 12709 0 14)] 1 true true
noncomputable def k167 : Blk := .cells [(p 2 0), (p 104 0), (p 337 0), p0, p0, p0, p0, (i 510000), (i 0), (i 17), (i 0), (i 0), (i 0), s0] 1 false true
noncomputable def k168 : Blk := .cells [(i 0), (i 16), (i 17), (.int .u64 131071)] 1 false true
noncomputable def k169 : Blk := .cells [(i 200), (i 150), (i 150), (i 200), (i 150), (i 4), (i 850)] 1 false true
noncomputable def k170 : Blk := .cells [(.str ⟨#[108, 48]⟩), (.int .u32 40), (i 100), (p 226 0), (p 227 0), tt, (i 780000), ff, ff, (i 0)] 10 true true
noncomputable def k171 : Blk := .cells [(i 510000), ff] 2 false true
noncomputable def k172 : Blk := .cells [(su 13509 1 0), (p 335 0), (i 0)] 1 false true
noncomputable def k173 : Blk := .cells [(.int .u32 2), (i 0), (i 0), (i 1), (i 15), (i 16), (i 16), (i 16), (i 0)] 1 false true
noncomputable def k174 : Blk := .cells (bs [128, 96, 0, 15, 0, 0, 0, 16, 0, 0, 0, 2, 1, 16]) 1 true true
noncomputable def k175 : Blk := .cells [(su 13507 0 14)] 1 true true
noncomputable def k176 : Blk := .cells [(p 2 0), (p 104 0), (p 337 0), p0, p0, p0, p0, (i 540000), (i 0), (i 18), (i 0), (i 0), (i 0), s0] 1 false true
noncomputable def k177 : Blk := .cells [(i 0), (i 17), (i 18), (.int .u64 262143)] 1 false true
noncomputable def k178 : Blk := .cells [(i 50), (i 150), (i 150), (i 200), (i 150), (i 5), (i 900)] 1 false true
noncomputable def k179 : Blk := .cells [(.str ⟨#[108, 48]⟩), (.int .u32 40), (i 100), (p 226 0), (p 227 0), tt, (i 810000), ff, ff, (i 0)] 10 true true
noncomputable def k180 : Blk := .cells [(i 540000), ff] 2 false true
noncomputable def k181 : Blk := .cells [(su 14307 1 0), (p 335 0), (i 0)] 1 false true
noncomputable def k182 : Blk := .cells [(.int .u32 2), (i 0), (i 0), (i 1), (i 16), (i 17), (i 17), (i 17), (i 0)] 1 false true
noncomputable def k183 : Blk := .cells (bs [128, 96, 0, 16, 0, 0, 0, 17, 0, 0, 0, 2, 1, 17]) 1 true true
noncomputable def k184 : Blk := .cells [(su 14305 0 14)] 1 true true
noncomputable def k185 : Blk := .cells [(p 2 0), (p 104 0), (p 337 0), p0, p0, p0, p0, (i 570000), (i 0), (i 19), (i 0), (i 0), (i 0), s0] 1 false true
noncomputable def k186 : Blk := .cells [(i 0), (i 18), (i 19), (.int .u64 524287)] 1 false true
noncomputable def k187 : Blk := .cells [(i 100), (i 150), (i 150), (i 200), (i 150), (i 5), (i 950)] 1 false true
noncomputable def k188 : Blk := .cells [(.str ⟨#[108, 48]⟩), (.int .u32 40), (i 100), (p 226 0), (p 227 0), tt, (i 840000), ff, ff, (i 0)] 10 true true
noncomputable def k189 : Blk := .cells [(i 570000), ff] 2 false true
noncomputable def k190 : Blk := .cells [(su 15105 1 0), (p 335 0), (i 0)] 1 false true
noncomputable def k191 : Blk := .cells [(.int .u32 2), (i 0), (i 0), (i 1), (i 17), (i 18), (i 18), (i 18), (i 0)] 1 false true
noncomputable def k192 : Blk := .cells (bs [128, 96, 0, 17, 0, 0, 0, 18, 0, 0, 0, 2, 1, 18]) 1 true true
noncomputable def k193 : Blk := .cells [(su 15103 0 14)] 1 true true
noncomputable def k194 : Blk := .cells [(p 2 0), (p 104 0), (p 337 0), p0, p0, p0, p0, (i 600000), (i 0), (i 20), (i 0), (i 0), (i 0), s0] 1 false true
noncomputable def k195 : Blk := .cells [(i 0), (i 19), (i 20), (.int .u64 1048575)] 1 false true
noncomputable def k196 : Blk := .cells [(i 150), (i 150), (i 150), (i 200), (i 150), (i 5), (i 1000)] 1 false true
noncomputable def k197 : Blk := .cells [(.str ⟨#[108, 48]⟩), (.int .u32 40), (i 100), (p 226 0), (p 227 0), tt, (i 870000), ff, ff, (i 0)] 10 true true
noncomputable def k198 : Blk := .cells [(i 600000), ff] 2 false true
noncomputable def k199 : Blk := .cells [(su 15903 1 0), (p 335 0), (i 0)] 1 false true
noncomputable def k200 : Blk := .cells [(.int .u32 2), (i 0), (i 0), (i 1), (i 18), (i 19), (i 19), (i 19), (i 0)] 1 false true
noncomputable def k201 : Blk := .cells (bs [128, 96, 0, 18, 0, 0, 0, 19, 0, 0, 0, 2, 1, 19]) 1 true true
noncomputable def k202 : Blk := .cells [(su 15901 0 14)] 1 true true
noncomputable def k203 : Blk := .cells [(p 2 0), (p 104 0), (p 337 0), p0, p0, p0, p0, (i 630000), (i 0), (i 21), (i 0), (i 0), (i 0), s0] 1 false true
noncomputable def k204 : Blk := .cells [(i 0), (i 20), (i 21), (.int .u64 2097151)] 1 false true
noncomputable def k205 : Blk := .cells [(i 150), (i 50), (i 150), (i 200), (i 150), (i 6), (i 1050)] 1 false true
noncomputable def k206 : Blk := .cells [(.str ⟨#[108, 48]⟩), (.int .u32 40), (i 100), (p 226 0), (p 227 0), tt, (i 900000), ff, ff, (i 0)] 10 true true
noncomputable def k207 : Blk := .cells [(i 630000), ff] 2 false true
noncomputable def k208 : Blk := .cells [(su 16701 1 0), (p 335 0), (i 0)] 1 false true
noncomputable def k209 : Blk := .cells [(.int .u32 2), (i 0), (i 0), (i 1), (i 19), (i 20), (i 20), (i 20), (i 0)] 1 false true
noncomputable def k210 : Blk := .cells (bs [128, 96, 0, 19, 0, 0, 0, 20, 0, 0, 0, 2, 1, 20]) 1 true true
noncomputable def k211 : Blk := .cells [(su 16699 0 14)] 1 true true
noncomputable def k212 : Blk := .cells [(p 2 0), (p 104 0), (p 337 0), p0, p0, p0, p0, (i 660000), (i 0), (i 22), (i 0), (i 0), (i 0), s0] 1 false true
noncomputable def k213 : Blk := .cells [(i 0), (i 21), (i 22), (.int .u64 4194303)] 1 false true
noncomputable def k214 : Blk := .cells [(i 150), (i 100), (i 150), (i 200), (i 150), (i 6), (i 1100)] 1 false true
noncomputable def k215 : Blk := .cells [(.str ⟨#[108, 48]⟩), (.int .u32 40), (i 100), (p 226 0), (p 227 0), tt, (i 930000), ff, ff, (i 0)] 10 true true
noncomputable def k216 : Blk := .cells [(i 660000), ff] 2 false true
noncomputable def k217 : Blk := .cells [(su 17499 1 0), (p 335 0), (i 0)] 1 false true
noncomputable def k218 : Blk := .cells [(.int .u32 2), (i 0), (i 0), (i 1), (i 20), (i 21), (i 21), (i 21), (i 0)] 1 false true
noncomputable def k219 : Blk := .cells (bs [128, 96, 0, 20, 0, 0, 0, 21, 0, 0, 0, 2, 1, 21]) 1 true true
noncomputable def k220 : Blk := .cells [(su 17497 0 14)] 1 true true
noncomputable def k221 : Blk := .cells [(p 2 0), (p 104 0), (p 337 0), p0, p0, p0, p0, (i 690000), (i 0), (i 23), (i 0), (i 0), (i 0), s0] 1 false true
noncomputable def k222 : Blk := .cells [(i 0), (i 22), (i 23), (.int .u64 8388607)] 1 false true
noncomputable def k223 : Blk := .cells [(i 150), (i 150), (i 150), (i 200), (i 150), (i 6), (i 1150)] 1 false true
noncomputable def k224 : Blk := .cells [(.str ⟨#[108, 48]⟩), (.int .u32 40), (i 100), (p 226 0), (p 227 0), tt, (i 960000), ff, ff, (i 0)] 10 true true
noncomputable def k225 : Blk := .cells [(i 690000), ff] 2 false true
noncomputable def k226 : Blk := .cells [(su 18297 1 0), (p 335 0), (i 0)] 1 false true
noncomputable def k227 : Blk := .cells [(.int .u32 2), (i 0), (i 0), (i 1), (i 21), (i 22), (i 22), (i 22), (i 0)] 1 false true
noncomputable def k228 : Blk := .cells (bs [128, 96, 0, 21, 0, 0, 0, 22, 0, 0, 0, 2, 1, 22]) 1 true true
noncomputable def k229 : Blk := .cells [(su 18295 0 14)] 1 true true
noncomputable def k230 : Blk := .cells [(p 2 0), (p 104 0), (p 337 0), p0, p0, p0, p0, (i 720000), (i 0), (i 24), (i 0), (i 0), (i 0), s0] 1 false true
noncomputable def k231 : Blk := .cells [(i 0), (i 23), (i 24), (.int .u64 16777215)] 1 false true
noncomputable def k232 : Blk := .cells [(i 150), (i 200), (i 150), (i 200), (i 150), (i 6), (i 1200)] 1 false true
noncomputable def k233 : Blk := .cells [(.str ⟨#[108, 48]⟩), (.int .u32 40), (i 100), (p 226 0), (p 227 0), tt, (i 990000), ff, ff, (i 0)] 10 true true
noncomputable def k234 : Blk := .cells [(i 720000), ff] 2 false true
noncomputable def k235 : Blk := .cells [(su 19095 1 0), (p 335 0), (i 0)] 1 false true
noncomputable def k236 : Blk := .cells [(.int .u32 2), (i 0), (i 0), (i 1), (i 22), (i 23), (i 23), (i 23), (i 0)] 1 false true
noncomputable def k237 : Blk := .cells (bs [128, 96, 0, 22, 0, 0, 0, 23, 0, 0, 0, 2, 1, 23]) 1 true true
noncomputable def k238 : Blk := .cells [(su 19093 0 14)] 1 true true
noncomputable def k239 : Blk := .cells [(p 2 0), (p 104 0), (p 337 0), p0, p0, p0, p0, (i 750000), (i 0), (i 25), (i 0), (i 0), (i 0), s0] 1 false true
noncomputable def k240 : Blk := .cells [(i 0), (i 24), (i 25), (.int .u64 33554431)] 1 false true
noncomputable def k241 : Blk := .cells [(i 150), (i 200), (i 50), (i 200), (i 150), (i 7), (i 1250)] 1 false true
noncomputable def k242 : Blk := .cells [(.str ⟨#[108, 48]⟩), (.int .u32 40), (i 100), (p 226 0), (p 227 0), tt, (i 1020000), ff, ff, (i 0)] 10 true true
noncomputable def k243 : Blk := .cells [(i 750000), ff] 2 false true
noncomputable def k244 : Blk := .cells [(su 19893 1 0), (p 335 0), (i 0)] 1 false true
noncomputable def k245 : Blk := .cells [(.int .u32 2), (i 0), (i 0), (i 1), (i 23), (i 24), (i 24), (i 24), (i 0)] 1 false true
noncomputable def k246 : Blk := .cells (bs [128, 96, 0, 23, 0, 0, 0, 24, 0, 0, 0, 2, 1, 24]) 1 true true
noncomputable def k247 : Blk := .cells [(su 19891 0 14)] 1 true true
noncomputable def k248 : Blk := .cells [(p 2 0), (p 104 0), (p 337 0), p0, p0, p0, p0, (i 780000), (i 0), (i 26), (i 0), (i 0), (i 0), s0] 1 false true
noncomputable def k249 : Blk := .cells [(i 0), (i 25), (i 26), (.int .u64 67108863)] 1 false true
noncomputable def k250 : Blk := .cells [(i 150), (i 200), (i 100), (i 200), (i 150), (i 7), (i 1300)] 1 false true
noncomputable def k251 : Blk := .cells [(.str ⟨#[108, 48]⟩), (.int .u32 40), (i 100), (p 226 0), (p 227 0), tt, (i 1050000), ff, ff, (i 0)] 10 true true
noncomputable def k252 : Blk := .cells [(i 780000), ff] 2 false true
noncomputable def k253 : Blk := .cells [(su 20691 1 0), (p 335 0), (i 0)] 1 false true
noncomputable def k254 : Blk := .cells [(.int .u32 2), (i 0), (i 0), (i 1), (i 24), (i 25), (i 25), (i 25), (i 0)] 1 false true
noncomputable def k255 : Blk := .cells (bs [128, 96, 0, 24, 0, 0, 0, 25, 0, 0, 0, 2, 1, 25]) 1 true true
noncomputable def k256 : Blk := .cells [(su 20689 0 14)] 1 true true
noncomputable def k257 : Blk := .cells [(p 2 0), (p 104 0), (p 337 0), p0, p0, p0, p0, (i 810000), (i 0), (i 27), (i 0), (i 0), (i 0), s0] 1 false true
noncomputable def k258 : Blk := .cells [(i 0), (i 26), (i 27), (.int .u64 134217727)] 1 false true
noncomputable def k259 : Blk := .cells [(i 150), (i 200), (i 150), (i 200), (i 150), (i 7), (i 1350)] 1 false true
noncomputable def k260 : Blk := .cells [(.str ⟨#[108, 48]⟩), (.int .u32 40), (i 100), (p 226 0), (p 227 0), tt, (i 1080000), ff, ff, (i 0)] 10 true true
noncomputable def k261 : Blk := .cells [(i 810000), ff] 2 false true
noncomputable def k262 : Blk := .cells [(su 21489 1 0), (p 335 0), (i 0)] 1 false true
noncomputable def k263 : Blk := .cells [(.int .u32 2), (i 0), (i 0), (i 1), (i 25), (i 26), (i 26), (i 26), (i 0)] 1 false true
noncomputable def k264 : Blk := .cells (bs [128, 96, 0, 25, 0, 0, 0, 26, 0, 0, 0, 2, 1, 26]) 1 true true
noncomputable def k265 : Blk := .cells [(su 21487 0 14)] 1 true true
noncomputable def k266 : Blk := .cells [(p 2 0), (p 104 0), (p 337 0), p0, p0, p0, p0, (i 840000), (i 0), (i 28), (i 0), (i 0), (i 0), s0] 1 false true
noncomputable def k267 : Blk := .cells [(i 0), (i 27), (i 28), (.int .u64 268435455)] 1 false true
noncomputable def k268 : Blk := .cells [(i 150), (i 200), (i 150), (i 50), (i 150), (i 8), (i 1400)] 1 false true
noncomputable def k269 : Blk := .cells [(.str ⟨#[108, 48]⟩), (.int .u32 40), (i 100), (p 226 0), (p 227 0), tt, (i 1110000), ff, ff, (i 0)] 10 true true
noncomputable def k270 : Blk := .cells [(i 840000), ff] 2 false true
noncomputable def k271 : Blk := .cells [(su 22287 1 0), (p 335 0), (i 0)] 1 false true
noncomputable def k272 : Blk := .cells [(.int .u32 2), (i 0), (i 0), (i 1), (i 26), (i 27), (i 27), (i 27), (i 0)] 1 false true
noncomputable def k273 : Blk := .cells (bs [128, 96, 0, 26, 0, 0, 0, 27, 0, 0, 0, 2, 1, 27]) 1 true true
noncomputable def k274 : Blk := .cells [(su 22285 0 14)] 1 true true
noncomputable def k275 : Blk := .cells [(p 2 0), (p 104 0), (p 337 0), p0, p0, p0, p0, (i 870000), (i 0), (i 29), (i 0), (i 0), (i 0), s0] 1 false true
noncomputable def k276 : Blk := .cells [(i 0), (i 28), (i 29), (.int .u64 536870911)] 1 false true
noncomputable def k277 : Blk := .cells [(i 150), (i 200), (i 150), (i 100), (i 150), (i 8), (i 1450)] 1 false true
noncomputable def k278 : Blk := .cells [(.str ⟨#[108, 48]⟩), (.int .u32 40), (i 100), (p 226 0), (p 227 0), tt, (i 1140000), ff, ff, (i 0)] 10 true true
noncomputable def k279 : Blk := .cells [(i 870000), ff] 2 false true
noncomputable def k280 : Blk := .cells [(su 23085 1 0), (p 335 0), (i 0)] 1 false true
noncomputable def k281 : Blk := .cells [(.int .u32 2), (i 0), (i 0), (i 1), (i 27), (i 28), (i 28), (i 28), (i 0)] 1 false true
noncomputable def k282 : Blk := .cells (bs [128, 96, 0, 27, 0, 0, 0, 28, 0, 0, 0, 2, 1, 28]) 1 true true
noncomputable def k283 : Blk := .cells [(su 23083 0 14)] 1 true true
noncomputable def k284 : Blk := .cells [(p 2 0), (p 104 0), (p 337 0), p0, p0, p0, p0, (i 900000), (i 0), (i 30), (i 0), (i 0), (i 0), s0] 1 false true
noncomputable def k285 : Blk := .cells [(i 0), (i 29), (i 30), (.int .u64 1073741823)] 1 false true
noncomputable def k286 : Blk := .cells [(i 150), (i 200), (i 150), (i 150), (i 150), (i 8), (i 1500)] 1 false true
noncomputable def k287 : Blk := .cells [(.str ⟨#[108, 48]⟩), (.int .u32 40), (i 100), (p 226 0), (p 227 0), tt, (i 1170000), ff, ff, (i 0)] 10 true true
noncomputable def k288 : Blk := .cells [(i 900000), ff] 2 false true
noncomputable def k289 : Blk := .cells [(su 23883 1 0), (p 335 0), (i 0)] 1 false true
noncomputable def k290 : Blk := .cells [(.int .u32 2), (i 0), (i 0), (i 1), (i 28), (i 29), (i 29), (i 29), (i 0)] 1 false true
noncomputable def k291 : Blk := .cells (bs [128, 96, 0, 28, 0, 0, 0, 29, 0, 0, 0, 2, 1, 29]) 1 true true
noncomputable def k292 : Blk := .cells [(su 23881 0 14)] 1 true true
noncomputable def A0 : List (Nat × Blk) := [(2, k0), (3, k1), (100, k2), (101, k3), (102, k4), (103, k5), (104, k6), (221, k7), (224, k8), (226, k9), (227, k10), (229, k11), (230, k12), (231, k13), (333, k2), (334, k14), (335, k15), (336, k16), (337, k17), (445, k18), (447, k19), (448, k20), (450, k21)]
noncomputable def A1 : List (Nat × Blk) := [(2, k0), (3, k22), (100, k2), (101, k3), (102, k4), (103, k23), (104, k6), (221, k7), (224, k8), (226, k24), (227, k25), (229, k26), (230, k27), (231, k13), (333, k2), (334, k14), (335, k15), (336, k16), (337, k17), (445, k18), (447, k28), (448, k29), (450, k21), (837, k30), (839, k31)]
noncomputable def A2 : List (Nat × Blk) := [(2, k0), (3, k32), (100, k2), (101, k3), (102, k4), (103, k23), (104, k6), (221, k7), (224, k8), (226, k33), (227, k34), (229, k35), (230, k36), (231, k13), (333, k2), (334, k14), (335, k15), (336, k37), (337, k17), (445, k18), (447, k38), (448, k29), (450, k21), (837, k30), (839, k31), (1537, k39), (1539, k40)]
noncomputable def A3 : List (Nat × Blk) := [(2, k0), (3, k41), (100, k2), (101, k3), (102, k4), (103, k23), (104, k6), (221, k7), (224, k8), (226, k42), (227, k43), (229, k44), (230, k45), (231, k13), (333, k2), (334, k14), (335, k15), (336, k46), (337, k17), (445, k18), (447, k47), (448, k29), (450, k21), (837, k30), (839, k31), (2335, k48), (2337, k49)]
noncomputable def A4 : List (Nat × Blk) := [(2, k0), (3, k50), (100, k2), (101, k3), (102, k4), (103, k23), (104, k6), (221, k7), (224, k8), (226, k51), (227, k52), (229, k53), (230, k54), (231, k13), (333, k2), (334, k14), (335, k15), (336, k55), (337, k17), (445, k18), (447, k56), (448, k29), (450, k21), (837, k30), (839, k31), (3133, k57), (3135, k58)]
noncomputable def A5 : List (Nat × Blk) := [(2, k0), (3, k59), (100, k2), (101, k3), (102, k4), (103, k23), (104, k6), (221, k7), (224, k8), (226, k60), (227, k61), (229, k62), (230, k63), (231, k13), (333, k2), (334, k14), (335, k15), (336, k64), (337, k17), (445, k18), (447, k65), (448, k29), (450, k21), (837, k30), (839, k31), (3931, k66), (3933, k67)]
noncomputable def A6 : List (Nat × Blk) := [(2, k0), (3, k68), (100, k2), (101, k3), (102, k4), (103, k23), (104, k6), (221, k7), (224, k8), (226, k69), (227, k70), (229, k71), (230, k72), (231, k13), (333, k2), (334, k14), (335, k15), (336, k73), (337, k17), (445, k18), (447, k74), (448, k29), (450, k21), (837, k30), (839, k31), (4729, k75), (4731, k76)]
noncomputable def A7 : List (Nat × Blk) := [(2, k0), (3, k77), (100, k2), (101, k3), (102, k4), (103, k23), (104, k6), (221, k7), (224, k8), (226, k78), (227, k79), (229, k80), (230, k81), (231, k13), (333, k2), (334, k14), (335, k15), (336, k82), (337, k17), (445, k18), (447, k83), (448, k29), (450, k21), (837, k30), (839, k31), (5527, k84), (5529, k85)]
noncomputable def A8 : List (Nat × Blk) := [(2, k0), (3, k86), (100, k2), (101, k3), (102, k4), (103, k23), (104, k6), (221, k7), (224, k8), (226, k87), (227, k88), (229, k89), (230, k90), (231, k13), (333, k2), (334, k14), (335, k15), (336, k91), (337, k17), (445, k18), (447, k92), (448, k29), (450, k21), (837, k30), (839, k31), (6325, k93), (6327, k94)]
noncomputable def A9 : List (Nat × Blk) := [(2, k0), (3, k95), (100, k2), (101, k3), (102, k4), (103, k23), (104, k6), (221, k7), (224, k8), (226, k96), (227, k97), (229, k98), (230, k99), (231, k13), (333, k2), (334, k14), (335, k15), (336, k100), (337, k17), (445, k18), (447, k101), (448, k29), (450, k21), (837, k30), (839, k31), (7123, k102), (7125, k103)]
noncomputable def A10 : List (Nat × Blk) := [(2, k0), (3, k104), (100, k2), (101, k3), (102, k4), (103, k23), (104, k6), (221, k7), (224, k8), (226, k105), (227, k106), (229, k107), (230, k108), (231, k13), (333, k2), (334, k14), (335, k15), (336, k109), (337, k17), (445, k18), (447, k110), (448, k29), (450, k21), (837, k30), (839, k31), (7921, k111), (7923, k112)]
noncomputable def A11 : List (Nat × Blk) := [(2, k0), (3, k113), (100, k2), (101, k3), (102, k4), (103, k23), (104, k6), (221, k7), (224, k8), (226, k114), (227, k115), (229, k116), (230, k117), (231, k13), (333, k2), (334, k14), (335, k15), (336, k118), (337, k17), (445, k18), (447, k119), (448, k29), (450, k21), (837, k30), (839, k31), (8719, k120), (8721, k121)]
noncomputable def A12 : List (Nat × Blk) := [(2, k0), (3, k122), (100, k2), (101, k3), (102, k4), (103, k23), (104, k6), (221, k7), (224, k8), (226, k123), (227, k124), (229, k125), (230, k126), (231, k13), (333, k2), (334, k14), (335, k15), (336, k127), (337, k17), (445, k18), (447, k128), (448, k29), (450, k21), (837, k30), (839, k31), (9517, k129), (9519, k130)]
noncomputable def A13 : List (Nat × Blk) := [(2, k0), (3, k131), (100, k2), (101, k3), (102, k4), (103, k23), (104, k6), (221, k7), (224, k8), (226, k132), (227, k133), (229, k134), (230, k135), (231, k13), (333, k2), (334, k14), (335, k15), (336, k136), (337, k17), (445, k18), (447, k137), (448, k29), (450, k21), (837, k30), (839, k31), (10315, k138), (10317, k139)]
noncomputable def A14 : List (Nat × Blk) := [(2, k0), (3, k140), (100, k2), (101, k3), (102, k4), (103, k23), (104, k6), (221, k7), (224, k8), (226, k141), (227, k142), (229, k143), (230, k144), (231, k13), (333, k2), (334, k14), (335, k15), (336, k145), (337, k17), (445, k18), (447, k146), (448, k29), (450, k21), (837, k30), (839, k31), (11113, k147), (11115, k148)]
noncomputable def A15 : List (Nat × Blk) := [(2, k0), (3, k149), (100, k2), (101, k3), (102, k4), (103, k23), (104, k6), (221, k7), (224, k8), (226, k150), (227, k151), (229, k152), (230, k153), (231, k13), (333, k2), (334, k14), (335, k15), (336, k154), (337, k17), (445, k18), (447, k155), (448, k29), (450, k21), (837, k30), (839, k31), (11911, k156), (11913, k157)]
noncomputable def A16 : List (Nat × Blk) := [(2, k0), (3, k158), (100, k2), (101, k3), (102, k4), (103, k23), (104, k6), (221, k7), (224, k8), (226, k159), (227, k160), (229, k161), (230, k162), (231, k13), (333, k2), (334, k14), (335, k15), (336, k163), (337, k17), (445, k18), (447, k164), (448, k29), (450, k21), (837, k30), (839, k31), (12709, k165), (12711, k166)]
noncomputable def A17 : List (Nat × Blk) := [(2, k0), (3, k167), (100, k2), (101, k3), (102, k4), (103, k23), (104, k6), (221, k7), (224, k8), (226, k168), (227, k169), (229, k170), (230, k171), (231, k13), (333, k2), (334, k14), (335, k15), (336, k172), (337, k17), (445, k18), (447, k173), (448, k29), (450, k21), (837, k30), (839, k31), (13507, k174), (13509, k175)]
noncomputable def A18 : List (Nat × Blk) := [(2, k0), (3, k176), (100, k2), (101, k3), (102, k4), (103, k23), (104, k6), (221, k7), (224, k8), (226, k177), (227, k178), (229, k179), (230, k180), (231, k13), (333, k2), (334, k14), (335, k15), (336, k181), (337, k17), (445, k18), (447, k182), (448, k29), (450, k21), (837, k30), (839, k31), (14305, k183), (14307, k184)]
noncomputable def A19 : List (Nat × Blk) := [(2, k0), (3, k185), (100, k2), (101, k3), (102, k4), (103, k23), (104, k6), (221, k7), (224, k8), (226, k186), (227, k187), (229, k188), (230, k189), (231, k13), (333, k2), (334, k14), (335, k15), (336, k190), (337, k17), (445, k18), (447, k191), (448, k29), (450, k21), (837, k30), (839, k31), (15103, k192), (15105, k193)]
noncomputable def A20 : List (Nat × Blk) := [(2, k0), (3, k194), (100, k2), (101, k3), (102, k4), (103, k23), (104, k6), (221, k7), (224, k8), (226, k195), (227, k196), (229, k197), (230, k198), (231, k13), (333, k2), (334, k14), (335, k15), (336, k199), (337, k17), (445, k18), (447, k200), (448, k29), (450, k21), (837, k30), (839, k31), (15901, k201), (15903, k202)]
noncomputable def A21 : List (Nat × Blk) := [(2, k0), (3, k203), (100, k2), (101, k3), (102, k4), (103, k23), (104, k6), (221, k7), (224, k8), (226, k204), (227, k205), (229, k206), (230, k207), (231, k13), (333, k2), (334, k14), (335, k15), (336, k208), (337, k17), (445, k18), (447, k209), (448, k29), (450, k21), (837, k30), (839, k31), (16699, k210), (16701, k211)]
noncomputable def A22 : List (Nat × Blk) := [(2, k0), (3, k212), (100, k2), (101, k3), (102, k4), (103, k23), (104, k6), (221, k7), (224, k8), (226, k213), (227, k214), (229, k215), (230, k216), (231, k13), (333, k2), (334, k14), (335, k15), (336, k217), (337, k17), (445, k18), (447, k218), (448, k29), (450, k21), (837, k30), (839, k31), (17497, k219), (17499, k220)]
noncomputable def A23 : List (Nat × Blk) := [(2, k0), (3, k221), (100, k2), (101, k3), (102, k4), (103, k23), (104, k6), (221, k7), (224, k8), (226, k222), (227, k223), (229, k224), (230, k225), (231, k13), (333, k2), (334, k14), (335, k15), (336, k226), (337, k17), (445, k18), (447, k227), (448, k29), (450, k21), (837, k30), (839, k31), (18295, k228), (18297, k229)]
noncomputable def A24 : List (Nat × Blk) := [(2, k0), (3, k230), (100, k2), (101, k3), (102, k4), (103, k23), (104, k6), (221, k7), (224, k8), (226, k231), (227, k232), (229, k233), (230, k234), (231, k13), (333, k2), (334, k14), (335, k15), (336, k235), (337, k17), (445, k18), (447, k236), (448, k29), (450, k21), (837, k30), (839, k31), (19093, k237), (19095, k238)]
noncomputable def A25 : List (Nat × Blk) := [(2, k0), (3, k239), (100, k2), (101, k3), (102, k4), (103, k23), (104, k6), (221, k7), (224, k8), (226, k240), (227, k241), (229, k242), (230, k243), (231, k13), (333, k2), (334, k14), (335, k15), (336, k244), (337, k17), (445, k18), (447, k245), (448, k29), (450, k21), (837, k30), (839, k31), (19891, k246), (19893, k247)]
noncomputable def A26 : List (Nat × Blk) := [(2, k0), (3, k248), (100, k2), (101, k3), (102, k4), (103, k23), (104, k6), (221, k7), (224, k8), (226, k249), (227, k250), (229, k251), (230, k252), (231, k13), (333, k2), (334, k14), (335, k15), (336, k253), (337, k17), (445, k18), (447, k254), (448, k29), (450, k21), (837, k30), (839, k31), (20689, k255), (20691, k256)]
noncomputable def A27 : List (Nat × Blk) := [(2, k0), (3, k257), (100, k2), (101, k3), (102, k4), (103, k23), (104, k6), (221, k7), (224, k8), (226, k258), (227, k259), (229, k260), (230, k261), (231, k13), (333, k2), (334, k14), (335, k15), (336, k262), (337, k17), (445, k18), (447, k263), (448, k29), (450, k21), (837, k30), (839, k31), (21487, k264), (21489, k265)]
noncomputable def A28 : List (Nat × Blk) := [(2, k0), (3, k266), (100, k2), (101, k3), (102, k4), (103, k23), (104, k6), (221, k7), (224, k8), (226, k267), (227, k268), (229, k269), (230, k270), (231, k13), (333, k2), (334, k14), (335, k15), (336, k271), (337, k17), (445, k18), (447, k272), (448, k29), (450, k21), (837, k30), (839, k31), (22285, k273), (22287, k274)]
noncomputable def A29 : List (Nat × Blk) := [(2, k0), (3, k275), (100, k2), (101, k3), (102, k4), (103, k23), (104, k6), (221, k7), (224, k8), (226, k276), (227, k277), (229, k278), (230, k279), (231, k13), (333, k2), (334, k14), (335, k15), (336, k280), (337, k17), (445, k18), (447, k281), (448, k29), (450, k21), (837, k30), (839, k31), (23083, k282), (23085, k283)]
noncomputable def A30 : List (Nat × Blk) := [(2, k0), (3, k284), (100, k2), (101, k3), (102, k4), (103, k23), (104, k6), (221, k7), (224, k8), (226, k285), (227, k286), (229, k287), (230, k288), (231, k13), (333, k2), (334, k14), (335, k15), (336, k289), (337, k17), (445, k18), (447, k290), (448, k29), (450, k21), (837, k30), (839, k31), (23881, k291), (23883, k292)]
theorem s0 {H : AH} (h : Has H 552 A0) : ∃ H', CS S1 17 [(p 3 0)] H = some ((.agg [(i 0), (i 0), (i 0), (i 0)]), H') := run17 (nx' := 554) (by kernel_rfl) h
theorem r0 {H : AH} (h : Has H 552 A0) : ∃ H', g4_4 AHp (CS S1) loopW (p 3 0) (i 0) (i 0) (i 0) (i 1) (.int .u16 0) (i 0) H = some (.nrm [(i 0), (i 1)], H') ∧ Has H' 1336 A1 := run4 (by kernel_rfl) h
theorem s1 {H : AH} (h : Has H 1336 A1) : ∃ H', CS S1 17 [(p 3 0)] H = some ((.agg [(i 0), (i 1), (i 0), (i 0)]), H') := run17 (nx' := 1338) (by kernel_rfl) h
theorem r1 {H : AH} (h : Has H 1336 A1) : ∃ H', g4_4 AHp (CS S1) loopW (p 3 0) (i 1) (i 1) (i 0) (i 1) (.int .u16 1) (i 1) H = some (.nrm [(i 1), (i 2)], H') ∧ Has H' 2135 A2 := run4 (by kernel_rfl) h
theorem s2 {H : AH} (h : Has H 2135 A2) : ∃ H', CS S1 17 [(p 3 0)] H = some ((.agg [(i 0), (i 2), (i 0), (i 1)]), H') := run17 (nx' := 2137) (by kernel_rfl) h
theorem r2 {H : AH} (h : Has H 2135 A2) : ∃ H', g4_4 AHp (CS S1) loopW (p 3 0) (i 2) (i 2) (i 1) (i 1) (.int .u16 2) (i 2) H = some (.nrm [(i 2), (i 3)], H') ∧ Has H' 2933 A3 := run4 (by kernel_rfl) h
theorem s3 {H : AH} (h : Has H 2933 A3) : ∃ H', CS S1 17 [(p 3 0)] H = some ((.agg [(i 0), (i 3), (i 0), (i 1)]), H') := run17 (nx' := 2935) (by kernel_rfl) h
theorem r3 {H : AH} (h : Has H 2933 A3) : ∃ H', g4_4 AHp (CS S1) loopW (p 3 0) (i 3) (i 3) (i 2) (i 1) (.int .u16 3) (i 3) H = some (.nrm [(i 3), (i 4)], H') ∧ Has H' 3731 A4 := run4 (by kernel_rfl) h
theorem s4 {H : AH} (h : Has H 3731 A4) : ∃ H', CS S1 17 [(p 3 0)] H = some ((.agg [(i 0), (i 4), (i 0), (i 1)]), H') := run17 (nx' := 3733) (by kernel_rfl) h
theorem r4 {H : AH} (h : Has H 3731 A4) : ∃ H', g4_4 AHp (CS S1) loopW (p 3 0) (i 4) (i 4) (i 3) (i 1) (.int .u16 4) (i 4) H = some (.nrm [(i 4), (i 5)], H') ∧ Has H' 4529 A5 := run4 (by kernel_rfl) h
theorem s5 {H : AH} (h : Has H 4529 A5) : ∃ H', CS S1 17 [(p 3 0)] H = some ((.agg [(i 0), (i 5), (i 0), (i 1)]), H') := run17 (nx' := 4531) (by kernel_rfl) h
theorem r5 {H : AH} (h : Has H 4529 A5) : ∃ H', g4_4 AHp (CS S1) loopW (p 3 0) (i 5) (i 5) (i 4) (i 1) (.int .u16 5) (i 5) H = some (.nrm [(i 5), (i 6)], H') ∧ Has H' 5327 A6 := run4 (by kernel_rfl) h
theorem s6 {H : AH} (h : Has H 5327 A6) : ∃ H', CS S1 17 [(p 3 0)] H = some ((.agg [(i 0), (i 6), (i 0), (i 1)]), H') := run17 (nx' := 5329) (by kernel_rfl) h
theorem r6 {H : AH} (h : Has H 5327 A6) : ∃ H', g4_4 AHp (CS S1) loopW (p 3 0) (i 6) (i 6) (i 5) (i 1) (.int .u16 6) (i 6) H = some (.nrm [(i 6), (i 7)], H') ∧ Has H' 6125 A7 := run4 (by kernel_rfl) h
theorem s7 {H : AH} (h : Has H 6125 A7) : ∃ H', CS S1 17 [(p 3 0)] H = some ((.agg [(i 0), (i 7), (i 0), (i 1)]), H') := run17 (nx' := 6127) (by kernel_rfl) h
theorem r7 {H : AH} (h : Has H 6125 A7) : ∃ H', g4_4 AHp (CS S1) loopW (p 3 0) (i 7) (i 7) (i 6) (i 1) (.int .u16 7) (i 7) H = some (.nrm [(i 7), (i 8)], H') ∧ Has H' 6923 A8 := run4 (by kernel_rfl) h
theorem s8 {H : AH} (h : Has H 6923 A8) : ∃ H', CS S1 17 [(p 3 0)] H = some ((.agg [(i 0), (i 8), (i 0), (i 1)]), H') := run17 (nx' := 6925) (by kernel_rfl) h
theorem r8 {H : AH} (h : Has H 6923 A8) : ∃ H', g4_4 AHp (CS S1) loopW (p 3 0) (i 8) (i 8) (i 7) (i 1) (.int .u16 8) (i 8) H = some (.nrm [(i 8), (i 9)], H') ∧ Has H' 7721 A9 := run4 (by kernel_rfl) h
theorem s9 {H : AH} (h : Has H 7721 A9) : ∃ H', CS S1 17 [(p 3 0)] H = some ((.agg [(i 0), (i 9), (i 0), (i 1)]), H') := run17 (nx' := 7723) (by kernel_rfl) h
theorem r9 {H : AH} (h : Has H 7721 A9) : ∃ H', g4_4 AHp (CS S1) loopW (p 3 0) (i 9) (i 9) (i 8) (i 1) (.int .u16 9) (i 9) H = some (.nrm [(i 9), (i 10)], H') ∧ Has H' 8519 A10 := run4 (by kernel_rfl) h
theorem s10 {H : AH} (h : Has H 8519 A10) : ∃ H', CS S1 17 [(p 3 0)] H = some ((.agg [(i 0), (i 10), (i 0), (i 1)]), H') := run17 (nx' := 8521) (by kernel_rfl) h
theorem r10 {H : AH} (h : Has H 8519 A10) : ∃ H', g4_4 AHp (CS S1) loopW (p 3 0) (i 10) (i 10) (i 9) (i 1) (.int .u16 10) (i 10) H = some (.nrm [(i 10), (i 11)], H') ∧ Has H' 9317 A11 := run4 (by kernel_rfl) h
theorem s11 {H : AH} (h : Has H 9317 A11) : ∃ H', CS S1 17 [(p 3 0)] H = some ((.agg [(i 0), (i 11), (i 0), (i 1)]), H') := run17 (nx' := 9319) (by kernel_rfl) h
theorem r11 {H : AH} (h : Has H 9317 A11) : ∃ H', g4_4 AHp (CS S1) loopW (p 3 0) (i 11) (i 11) (i 10) (i 1) (.int .u16 11) (i 11) H = some (.nrm [(i 11), (i 12)], H') ∧ Has H' 10115 A12 := run4 (by kernel_rfl) h
theorem s12 {H : AH} (h : Has H 10115 A12) : ∃ H', CS S1 17 [(p 3 0)] H = some ((.agg [(i 0), (i 12), (i 0), (i 1)]), H') := run17 (nx' := 10117) (by kernel_rfl) h
theorem r12 {H : AH} (h : Has H 10115 A12) : ∃ H', g4_4 AHp (CS S1) loopW (p 3 0) (i 12) (i 12) (i 11) (i 1) (.int .u16 12) (i 12) H = some (.nrm [(i 12), (i 13)], H') ∧ Has H' 10913 A13 := run4 (by kernel_rfl) h
theorem s13 {H : AH} (h : Has H 10913 A13) : ∃ H', CS S1 17 [(p 3 0)] H = some ((.agg [(i 0), (i 13), (i 0), (i 1)]), H') := run17 (nx' := 10915) (by kernel_rfl) h
theorem r13 {H : AH} (h : Has H 10913 A13) : ∃ H', g4_4 AHp (CS S1) loopW (p 3 0) (i 13) (i 13) (i 12) (i 1) (.int .u16 13) (i 13) H = some (.nrm [(i 13), (i 14)], H') ∧ Has H' 11711 A14 := run4 (by kernel_rfl) h
theorem s14 {H : AH} (h : Has H 11711 A14) : ∃ H', CS S1 17 [(p 3 0)] H = some ((.agg [(i 0), (i 14), (i 0), (i 1)]), H') := run17 (nx' := 11713) (by kernel_rfl) h
theorem r14 {H : AH} (h : Has H 11711 A14) : ∃ H', g4_4 AHp (CS S1) loopW (p 3 0) (i 14) (i 14) (i 13) (i 1) (.int .u16 14) (i 14) H = some (.nrm [(i 14), (i 15)], H') ∧ Has H' 12509 A15 := run4 (by kernel_rfl) h
theorem s15 {H : AH} (h : Has H 12509 A15) : ∃ H', CS S1 17 [(p 3 0)] H = some ((.agg [(i 0), (i 15), (i 0), (i 1)]), H') := run17 (nx' := 12511) (by kernel_rfl) h
theorem r15 {H : AH} (h : Has H 12509 A15) : ∃ H', g4_4 AHp (CS S1) loopW (p 3 0) (i 15) (i 15) (i 14) (i 1) (.int .u16 15) (i 15) H = some (.nrm [(i 15), (i 16)], H') ∧ Has H' 13307 A16 := run4 (by kernel_rfl) h
theorem s16 {H : AH} (h : Has H 13307 A16) : ∃ H', CS S1 17 [(p 3 0)] H = some ((.agg [(i 0), (i 16), (i 0), (i 1)]), H') := run17 (nx' := 13309) (by kernel_rfl) h
theorem r16 {H : AH} (h : Has H 13307 A16) : ∃ H', g4_4 AHp (CS S1) loopW (p 3 0) (i 16) (i 16) (i 15) (i 1) (.int .u16 16) (i 16) H = some (.nrm [(i 16), (i 17)], H') ∧ Has H' 14105 A17 := run4 (by kernel_rfl) h
theorem s17 {H : AH} (h : Has H 14105 A17) : ∃ H', CS S1 17 [(p 3 0)] H = some ((.agg [(i 0), (i 17), (i 0), (i 1)]), H') := run17 (nx' := 14107) (by kernel_rfl) h
theorem r17 {H : AH} (h : Has H 14105 A17) : ∃ H', g4_4 AHp (CS S1) loopW (p 3 0) (i 17) (i 17) (i 16) (i 1) (.int .u16 17) (i 17) H = some (.nrm [(i 17), (i 18)], H') ∧ Has H' 14903 A18 := run4 (by kernel_rfl) h
theorem s18 {H : AH} (h : Has H 14903 A18) : ∃ H', CS S1 17 [(p 3 0)] H = some ((.agg [(i 0), (i 18), (i 0), (i 1)]), H') := run17 (nx' := 14905) (by kernel_rfl) h
theorem r18 {H : AH} (h : Has H 14903 A18) : ∃ H', g4_4 AHp (CS S1) loopW (p 3 0) (i 18) (i 18) (i 17) (i 1) (.int .u16 18) (i 18) H = some (.nrm [(i 18), (i 19)], H') ∧ Has H' 15701 A19 := run4 (by kernel_rfl) h
theorem s19 {H : AH} (h : Has H 15701 A19) : ∃ H', CS S1 17 [(p 3 0)] H = some ((.agg [(i 0), (i 19), (i 0), (i 1)]), H') := run17 (nx' := 15703) (by kernel_rfl) h
theorem r19 {H : AH} (h : Has H 15701 A19) : ∃ H', g4_4 AHp (CS S1) loopW (p 3 0) (i 19) (i 19) (i 18) (i 1) (.int .u16 19) (i 19) H = some (.nrm [(i 19), (i 20)], H') ∧ Has H' 16499 A20 := run4 (by kernel_rfl) h
theorem s20 {H : AH} (h : Has H 16499 A20) : ∃ H', CS S1 17 [(p 3 0)] H = some ((.agg [(i 0), (i 20), (i 0), (i 1)]), H') := run17 (nx' := 16501) (by kernel_rfl) h
theorem r20 {H : AH} (h : Has H 16499 A20) : ∃ H', g4_4 AHp (CS S1) loopW (p 3 0) (i 20) (i 20) (i 19) (i 1) (.int .u16 20) (i 20) H = some (.nrm [(i 20), (i 21)], H') ∧ Has H' 17297 A21 := run4 (by kernel_rfl) h
theorem s21 {H : AH} (h : Has H 17297 A21) : ∃ H', CS S1 17 [(p 3 0)] H = some ((.agg [(i 0), (i 21), (i 0), (i 1)]), H') := run17 (nx' := 17299) (by kernel_rfl) h
theorem r21 {H : AH} (h : Has H 17297 A21) : ∃ H', g4_4 AHp (CS S1) loopW (p 3 0) (i 21) (i 21) (i 20) (i 1) (.int .u16 21) (i 21) H = some (.nrm [(i 21), (i 22)], H') ∧ Has H' 18095 A22 := run4 (by kernel_rfl) h
theorem s22 {H : AH} (h : Has H 18095 A22) : ∃ H', CS S1 17 [(p 3 0)] H = some ((.agg [(i 0), (i 22), (i 0), (i 1)]), H') := run17 (nx' := 18097) (by kernel_rfl) h
theorem r22 {H : AH} (h : Has H 18095 A22) : ∃ H', g4_4 AHp (CS S1) loopW (p 3 0) (i 22) (i 22) (i 21) (i 1) (.int .u16 22) (i 22) H = some (.nrm [(i 22), (i 23)], H') ∧ Has H' 18893 A23 := run4 (by kernel_rfl) h
theorem s23 {H : AH} (h : Has H 18893 A23) : ∃ H', CS S1 17 [(p 3 0)] H = some ((.agg [(i 0), (i 23), (i 0), (i 1)]), H') := run17 (nx' := 18895) (by kernel_rfl) h
theorem r23 {H : AH} (h : Has H 18893 A23) : ∃ H', g4_4 AHp (CS S1) loopW (p 3 0) (i 23) (i 23) (i 22) (i 1) (.int .u16 23) (i 23) H = some (.nrm [(i 23), (i 24)], H') ∧ Has H' 19691 A24 := run4 (by kernel_rfl) h
theorem s24 {H : AH} (h : Has H 19691 A24) : ∃ H', CS S1 17 [(p 3 0)] H = some ((.agg [(i 0), (i 24), (i 0), (i 1)]), H') := run17 (nx' := 19693) (by kernel_rfl) h
theorem r24 {H : AH} (h : Has H 19691 A24) : ∃ H', g4_4 AHp (CS S1) loopW (p 3 0) (i 24) (i 24) (i 23) (i 1) (.int .u16 24) (i 24) H = some (.nrm [(i 24), (i 25)], H') ∧ Has H' 20489 A25 := run4 (by kernel_rfl) h
theorem s25 {H : AH} (h : Has H 20489 A25) : ∃ H', CS S1 17 [(p 3 0)] H = some ((.agg [(i 0), (i 25), (i 0), (i 1)]), H') := run17 (nx' := 20491) (by kernel_rfl) h
theorem r25 {H : AH} (h : Has H 20489 A25) : ∃ H', g4_4 AHp (CS S1) loopW (p 3 0) (i 25) (i 25) (i 24) (i 1) (.int .u16 25) (i 25) H = some (.nrm [(i 25), (i 26)], H') ∧ Has H' 21287 A26 := run4 (by kernel_rfl) h
theorem s26 {H : AH} (h : Has H 21287 A26) : ∃ H', CS S1 17 [(p 3 0)] H = some ((.agg [(i 0), (i 26), (i 0), (i 1)]), H') := run17 (nx' := 21289) (by kernel_rfl) h
theorem r26 {H : AH} (h : Has H 21287 A26) : ∃ H', g4_4 AHp (CS S1) loopW (p 3 0) (i 26) (i 26) (i 25) (i 1) (.int .u16 26) (i 26) H = some (.nrm [(i 26), (i 27)], H') ∧ Has H' 22085 A27 := run4 (by kernel_rfl) h
theorem s27 {H : AH} (h : Has H 22085 A27) : ∃ H', CS S1 17 [(p 3 0)] H = some ((.agg [(i 0), (i 27), (i 0), (i 1)]), H') := run17 (nx' := 22087) (by kernel_rfl) h
theorem r27 {H : AH} (h : Has H 22085 A27) : ∃ H', g4_4 AHp (CS S1) loopW (p 3 0) (i 27) (i 27) (i 26) (i 1) (.int .u16 27) (i 27) H = some (.nrm [(i 27), (i 28)], H') ∧ Has H' 22883 A28 := run4 (by kernel_rfl) h
theorem s28 {H : AH} (h : Has H 22883 A28) : ∃ H', CS S1 17 [(p 3 0)] H = some ((.agg [(i 0), (i 28), (i 0), (i 1)]), H') := run17 (nx' := 22885) (by kernel_rfl) h
theorem r28 {H : AH} (h : Has H 22883 A28) : ∃ H', g4_4 AHp (CS S1) loopW (p 3 0) (i 28) (i 28) (i 27) (i 1) (.int .u16 28) (i 28) H = some (.nrm [(i 28), (i 29)], H') ∧ Has H' 23681 A29 := run4 (by kernel_rfl) h
theorem s29 {H : AH} (h : Has H 23681 A29) : ∃ H', CS S1 17 [(p 3 0)] H = some ((.agg [(i 0), (i 29), (i 0), (i 1)]), H') := run17 (nx' := 23683) (by kernel_rfl) h
theorem r29 {H : AH} (h : Has H 23681 A29) : ∃ H', g4_4 AHp (CS S1) loopW (p 3 0) (i 29) (i 29) (i 28) (i 1) (.int .u16 29) (i 29) H = some (.nrm [(i 29), (i 30)], H') ∧ Has H' 24479 A30 := run4 (by kernel_rfl) h
theorem s30 {H : AH} (h : Has H 24479 A30) : ∃ H', CS S1 17 [(p 3 0)] H = some ((.agg [(i 0), (i 30), (i 0), (i 1)]), H') := run17 (nx' := 24481) (by kernel_rfl) h
end O1
end Go.Proofs.YtchikbhlojpolaaGreat
