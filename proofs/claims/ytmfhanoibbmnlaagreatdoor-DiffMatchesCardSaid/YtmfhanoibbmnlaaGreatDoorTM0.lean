/-
The tables are the program's. Conditions: none.
-/
import Derived.Test.YtmfhanoibbmnlaaGreatDoorGN
import Derived.Test.YtmfhanoibbmnlaaGreatDoorRows
import Derived.KernelRfl
namespace Go.Proofs.YtmfhanoibbmnlaaGreatDoor.Tz
open Go.Aug
set_option maxRecDepth 100000
theorem is_q5 : compFn Tryz.prog Tryz.f5 = some F_q5 := by kernel_rfl
theorem is_q6 : compFn Tryz.prog Tryz.f6 = some F_q6 := by kernel_rfl
theorem is_q1 : compFn Tryz.prog Tryz.f7 = some F_q1 := by kernel_rfl
theorem is_q4 : compFn Tryz.prog Tryz.f8 = some F_q4 := by kernel_rfl
theorem is_q59 : compFn Tryz.prog Tryz.f10 = some F_q59 := by kernel_rfl
theorem is_q62 : compFn Tryz.prog Tryz.f12 = some F_q62 := by kernel_rfl
theorem is_q58 : compFn Tryz.prog Tryz.f14 = some F_q58 := by kernel_rfl
theorem is_q43 : compFn Tryz.prog Tryz.f16 = some F_q43 := by kernel_rfl
theorem is_q22 : compFn Tryz.prog Tryz.f18 = some F_q22 := by kernel_rfl
theorem is_q21 : compFn Tryz.prog Tryz.f19 = some F_q21 := by kernel_rfl
theorem is_q2 : compFn Tryz.prog Tryz.f20 = some F_q2 := by kernel_rfl
theorem is_q3 : compFn Tryz.prog Tryz.f21 = some F_q3 := by kernel_rfl
theorem is_q64 : compFn Tryz.prog Tryz.f22 = some F_q64 := by kernel_rfl
theorem is_q60 : compFn Tryz.prog Tryz.f23 = some F_q60 := by kernel_rfl
theorem is_q88 : compFn Tryz.prog Tryz.f24 = some F_q88 := by kernel_rfl
theorem is_q86 : compFn Tryz.prog Tryz.f25 = some F_q86 := by kernel_rfl
theorem is_q61 : compFn Tryz.prog Tryz.f26 = some F_q61 := by kernel_rfl
theorem is_q80 : compFn Tryz.prog Tryz.f27 = some F_q80 := by kernel_rfl
theorem is_q65 : compFn Tryz.prog Tryz.f28 = some F_q65 := by kernel_rfl
theorem is_q63 : compFn Tryz.prog Tryz.f29 = some F_q63 := by kernel_rfl
theorem is_q81 : compFn Tryz.prog Tryz.f30 = some F_q81 := by kernel_rfl
theorem is_q111 : compFn Tryz.prog Tryz.f32 = some F_q111 := by kernel_rfl
theorem is_q76 : compFn Tryz.prog Tryz.f33 = some F_q76 := by kernel_rfl
theorem is_q66 : compFn Tryz.prog Tryz.f35 = some F_q66 := by kernel_rfl
theorem is_q42 : compFn Tryz.prog Tryz.f38 = some F_q42 := by kernel_rfl
theorem is_q40 : compFn Tryz.prog Tryz.f39 = some F_q40 := by kernel_rfl
theorem is_q23 : compFn Tryz.prog Tryz.f40 = some F_q23 := by kernel_rfl
theorem is_q20 : compFn Tryz.prog Tryz.f41 = some F_q20 := by kernel_rfl
theorem is_q13 : compFn Tryz.prog Tryz.f42 = some F_q13 := by kernel_rfl
theorem is_q37 : compFn Tryz.prog Tryz.f43 = some F_q37 := by kernel_rfl
theorem is_q0 : compFn Tryz.prog Tryz.f44 = some F_q0 := by kernel_rfl
theorem is_q90 : compFn Tryz.prog Tryz.f45 = some F_q90 := by kernel_rfl
theorem is_q85 : compFn Tryz.prog Tryz.f46 = some F_q85 := by kernel_rfl
theorem is_q83 : compFn Tryz.prog Tryz.f47 = some F_q83 := by kernel_rfl
theorem is_q114 : compFn Tryz.prog Tryz.f52 = some F_q114 := by kernel_rfl
theorem is_q112 : compFn Tryz.prog Tryz.f53 = some F_q112 := by kernel_rfl
theorem is_q117 : compFn Tryz.prog Tryz.f54 = some F_q117 := by kernel_rfl
theorem is_q79 : compFn Tryz.prog Tryz.f55 = some F_q79 := by kernel_rfl
theorem is_q92 : compFn Tryz.prog Tryz.f56 = some F_q92 := by kernel_rfl
theorem is_q77 : compFn Tryz.prog Tryz.f57 = some F_q77 := by kernel_rfl
theorem is_q55 : compFn Tryz.prog Tryz.f58 = some F_q55 := by kernel_rfl
theorem is_q53 : compFn Tryz.prog Tryz.f59 = some F_q53 := by kernel_rfl
theorem is_q54 : compFn Tryz.prog Tryz.f60 = some F_q54 := by kernel_rfl
theorem is_q115 : compFn Tryz.prog Tryz.f62 = some F_q115 := by kernel_rfl
theorem is_q109 : compFn Tryz.prog Tryz.f63 = some F_q109 := by kernel_rfl
theorem is_q116 : compFn Tryz.prog Tryz.f65 = some F_q116 := by kernel_rfl
theorem is_q110 : compFn Tryz.prog Tryz.f66 = some F_q110 := by kernel_rfl
theorem is_q121 : compFn Tryz.prog Tryz.f67 = some F_q121 := by kernel_rfl
theorem is_q120 : compFn Tryz.prog Tryz.f68 = some F_q120 := by kernel_rfl
theorem is_q118 : compFn Tryz.prog Tryz.f70 = some F_q118 := by kernel_rfl
theorem is_q87 : compFn Tryz.prog Tryz.f72 = some F_q87 := by kernel_rfl
theorem is_q67 : compFn Tryz.prog Tryz.f73 = some F_q67 := by kernel_rfl
theorem is_q9 : compFn Tryz.prog Tryz.f79 = some F_q9 := by kernel_rfl
theorem is_q7 : compFn Tryz.prog Tryz.f80 = some F_q7 := by kernel_rfl
theorem is_q11 : compFn Tryz.prog Tryz.f81 = some F_q11 := by kernel_rfl
theorem is_q12 : compFn Tryz.prog Tryz.f82 = some F_q12 := by kernel_rfl
theorem is_q15 : compFn Tryz.prog Tryz.f83 = some F_q15 := by kernel_rfl
theorem is_q19 : compFn Tryz.prog Tryz.f84 = some F_q19 := by kernel_rfl
theorem is_q14 : compFn Tryz.prog Tryz.f85 = some F_q14 := by kernel_rfl
theorem is_q16 : compFn Tryz.prog Tryz.f86 = some F_q16 := by kernel_rfl
theorem is_q17 : compFn Tryz.prog Tryz.f87 = some F_q17 := by kernel_rfl
theorem is_q18 : compFn Tryz.prog Tryz.f88 = some F_q18 := by kernel_rfl
theorem is_q32 : compFn Tryz.prog Tryz.f89 = some F_q32 := by kernel_rfl
theorem is_q31 : compFn Tryz.prog Tryz.f90 = some F_q31 := by kernel_rfl
theorem is_q38 : compFn Tryz.prog Tryz.f91 = some F_q38 := by kernel_rfl
theorem is_q36 : compFn Tryz.prog Tryz.f92 = some F_q36 := by kernel_rfl
theorem is_q35 : compFn Tryz.prog Tryz.f93 = some F_q35 := by kernel_rfl
theorem is_q33 : compFn Tryz.prog Tryz.f94 = some F_q33 := by kernel_rfl
theorem is_q26 : compFn Tryz.prog Tryz.f95 = some F_q26 := by kernel_rfl
theorem is_q28 : compFn Tryz.prog Tryz.f96 = some F_q28 := by kernel_rfl
theorem is_q72 : compFn Tryz.prog Tryz.f97 = some F_q72 := by kernel_rfl
theorem is_q82 : compFn Tryz.prog Tryz.f98 = some F_q82 := by kernel_rfl
theorem is_q84 : compFn Tryz.prog Tryz.f99 = some F_q84 := by kernel_rfl
theorem is_q123 : compFn Tryz.prog Tryz.f101 = some F_q123 := by kernel_rfl
theorem is_q119 : compFn Tryz.prog Tryz.f102 = some F_q119 := by kernel_rfl
theorem is_q68 : compFn Tryz.prog Tryz.f103 = some F_q68 := by kernel_rfl
theorem is_q69 : compFn Tryz.prog Tryz.f104 = some F_q69 := by kernel_rfl
theorem is_q75 : compFn Tryz.prog Tryz.f105 = some F_q75 := by kernel_rfl
theorem is_q78 : compFn Tryz.prog Tryz.f106 = some F_q78 := by kernel_rfl
theorem is_q101 : compFn Tryz.prog Tryz.f107 = some F_q101 := by kernel_rfl
theorem is_q44 : compFn Tryz.prog Tryz.f108 = some F_q44 := by kernel_rfl
theorem is_q56 : compFn Tryz.prog Tryz.f109 = some F_q56 := by kernel_rfl
theorem is_q57 : compFn Tryz.prog Tryz.f110 = some F_q57 := by kernel_rfl
theorem is_q103 : compFn Tryz.prog Tryz.f113 = some F_q103 := by kernel_rfl
theorem is_q113 : compFn Tryz.prog Tryz.f114 = some F_q113 := by kernel_rfl
theorem is_q89 : compFn Tryz.prog Tryz.f116 = some F_q89 := by kernel_rfl
theorem is_q10 : compFn Tryz.prog Tryz.f121 = some F_q10 := by kernel_rfl
end Go.Proofs.YtmfhanoibbmnlaaGreatDoor.Tz

namespace Go.Proofs.YtmfhanoibbmnlaaGreatDoor.Tz
open Go.Aug
set_option maxRecDepth 100000
theorem is_q30 : compFn Tryz.prog Tryz.f122 = some F_q30 := by kernel_rfl
theorem is_q27 : compFn Tryz.prog Tryz.f123 = some F_q27 := by kernel_rfl
theorem is_q25 : compFn Tryz.prog Tryz.f124 = some F_q25 := by kernel_rfl
theorem is_q34 : compFn Tryz.prog Tryz.f125 = some F_q34 := by kernel_rfl
theorem is_q73 : compFn Tryz.prog Tryz.f126 = some F_q73 := by kernel_rfl
theorem is_q122 : compFn Tryz.prog Tryz.f128 = some F_q122 := by kernel_rfl
theorem is_q124 : compFn Tryz.prog Tryz.f129 = some F_q124 := by kernel_rfl
theorem is_q47 : compFn Tryz.prog Tryz.f130 = some F_q47 := by kernel_rfl
theorem is_q91 : compFn Tryz.prog Tryz.f131 = some F_q91 := by kernel_rfl
theorem is_q97 : compFn Tryz.prog Tryz.f132 = some F_q97 := by kernel_rfl
theorem is_q46 : compFn Tryz.prog Tryz.f141 = some F_q46 := by kernel_rfl
theorem is_q104 : compFn Tryz.prog Tryz.f144 = some F_q104 := by kernel_rfl
theorem is_q8 : compFn Tryz.prog Tryz.f154 = some F_q8 := by kernel_rfl
theorem is_q39 : compFn Tryz.prog Tryz.f155 = some F_q39 := by kernel_rfl
theorem is_q74 : compFn Tryz.prog Tryz.f156 = some F_q74 := by kernel_rfl
theorem is_q126 : compFn Tryz.prog Tryz.f158 = some F_q126 := by kernel_rfl
theorem is_q51 : compFn Tryz.prog Tryz.f159 = some F_q51 := by kernel_rfl
theorem is_q41 : compFn Tryz.prog Tryz.f174 = some F_q41 := by kernel_rfl
theorem is_q29 : compFn Tryz.prog Tryz.f175 = some F_q29 := by kernel_rfl
theorem is_q125 : compFn Tryz.prog Tryz.f177 = some F_q125 := by kernel_rfl
theorem is_q48 : compFn Tryz.prog Tryz.f178 = some F_q48 := by kernel_rfl
theorem is_q52 : compFn Tryz.prog Tryz.f179 = some F_q52 := by kernel_rfl
theorem is_q49 : compFn Tryz.prog Tryz.f180 = some F_q49 := by kernel_rfl
theorem is_q70 : compFn Tryz.prog Tryz.f182 = some F_q70 := by kernel_rfl
theorem is_q50 : compFn Tryz.prog Tryz.f190 = some F_q50 := by kernel_rfl
theorem is_q71 : compFn Tryz.prog Tryz.f193 = some F_q71 := by kernel_rfl
end Go.Proofs.YtmfhanoibbmnlaaGreatDoor.Tz
