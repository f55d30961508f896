/-
The tables are the program's. Conditions: none.
-/
import Derived.Test.YtlnkifnkamojnaaGreatGN
import Derived.Test.YtlnkifnkamojnaaGreatRows
import Derived.KernelRfl
namespace Go.Proofs.YtlnkifnkamojnaaGreat.Tz
open Go.Aug
set_option maxRecDepth 100000
theorem is_q3 : compFn Tryz.prog Tryz.f3 = some F_q3 := by kernel_rfl
theorem is_q4 : compFn Tryz.prog Tryz.f9 = some F_q4 := by kernel_rfl
theorem is_q2 : compFn Tryz.prog Tryz.f10 = some F_q2 := by kernel_rfl
theorem is_q0 : compFn Tryz.prog Tryz.f11 = some F_q0 := by kernel_rfl
theorem is_q165 : compFn Tryz.prog Tryz.f12 = some F_q165 := by kernel_rfl
theorem is_q43 : compFn Tryz.prog Tryz.f13 = some F_q43 := by kernel_rfl
theorem is_q161 : compFn Tryz.prog Tryz.f14 = some F_q161 := by kernel_rfl
theorem is_q42 : compFn Tryz.prog Tryz.f15 = some F_q42 := by kernel_rfl
theorem is_q168 : compFn Tryz.prog Tryz.f16 = some F_q168 := by kernel_rfl
theorem is_q47 : compFn Tryz.prog Tryz.f17 = some F_q47 := by kernel_rfl
theorem is_q167 : compFn Tryz.prog Tryz.f18 = some F_q167 := by kernel_rfl
theorem is_q44 : compFn Tryz.prog Tryz.f19 = some F_q44 := by kernel_rfl
theorem is_q46 : compFn Tryz.prog Tryz.f20 = some F_q46 := by kernel_rfl
theorem is_q160 : compFn Tryz.prog Tryz.f21 = some F_q160 := by kernel_rfl
theorem is_q41 : compFn Tryz.prog Tryz.f22 = some F_q41 := by kernel_rfl
theorem is_q162 : compFn Tryz.prog Tryz.f25 = some F_q162 := by kernel_rfl
theorem is_q85 : compFn Tryz.prog Tryz.f28 = some F_q85 := by kernel_rfl
theorem is_q5 : compFn Tryz.prog Tryz.f30 = some F_q5 := by kernel_rfl
theorem is_q1 : compFn Tryz.prog Tryz.f31 = some F_q1 := by kernel_rfl
theorem is_q170 : compFn Tryz.prog Tryz.f32 = some F_q170 := by kernel_rfl
theorem is_q133 : compFn Tryz.prog Tryz.f33 = some F_q133 := by kernel_rfl
theorem is_q122 : compFn Tryz.prog Tryz.f34 = some F_q122 := by kernel_rfl
theorem is_q166 : compFn Tryz.prog Tryz.f35 = some F_q166 := by kernel_rfl
theorem is_q45 : compFn Tryz.prog Tryz.f36 = some F_q45 := by kernel_rfl
theorem is_q132 : compFn Tryz.prog Tryz.f37 = some F_q132 := by kernel_rfl
theorem is_q123 : compFn Tryz.prog Tryz.f38 = some F_q123 := by kernel_rfl
theorem is_q171 : compFn Tryz.prog Tryz.f39 = some F_q171 := by kernel_rfl
theorem is_q169 : compFn Tryz.prog Tryz.f40 = some F_q169 := by kernel_rfl
theorem is_q48 : compFn Tryz.prog Tryz.f41 = some F_q48 := by kernel_rfl
theorem is_q20 : compFn Tryz.prog Tryz.f42 = some F_q20 := by kernel_rfl
theorem is_q130 : compFn Tryz.prog Tryz.f44 = some F_q130 := by kernel_rfl
theorem is_q119 : compFn Tryz.prog Tryz.f45 = some F_q119 := by kernel_rfl
theorem is_q163 : compFn Tryz.prog Tryz.f46 = some F_q163 := by kernel_rfl
theorem is_q131 : compFn Tryz.prog Tryz.f47 = some F_q131 := by kernel_rfl
theorem is_q164 : compFn Tryz.prog Tryz.f48 = some F_q164 := by kernel_rfl
theorem is_q174 : compFn Tryz.prog Tryz.f51 = some F_q174 := by kernel_rfl
theorem is_q86 : compFn Tryz.prog Tryz.f52 = some F_q86 := by kernel_rfl
theorem is_q77 : compFn Tryz.prog Tryz.f53 = some F_q77 := by kernel_rfl
theorem is_q145 : compFn Tryz.prog Tryz.f54 = some F_q145 := by kernel_rfl
theorem is_q94 : compFn Tryz.prog Tryz.f55 = some F_q94 := by kernel_rfl
theorem is_q88 : compFn Tryz.prog Tryz.f56 = some F_q88 := by kernel_rfl
theorem is_q92 : compFn Tryz.prog Tryz.f57 = some F_q92 := by kernel_rfl
theorem is_q91 : compFn Tryz.prog Tryz.f58 = some F_q91 := by kernel_rfl
theorem is_q89 : compFn Tryz.prog Tryz.f59 = some F_q89 := by kernel_rfl
theorem is_q87 : compFn Tryz.prog Tryz.f60 = some F_q87 := by kernel_rfl
theorem is_q93 : compFn Tryz.prog Tryz.f65 = some F_q93 := by kernel_rfl
theorem is_q17 : compFn Tryz.prog Tryz.f66 = some F_q17 := by kernel_rfl
theorem is_q173 : compFn Tryz.prog Tryz.f67 = some F_q173 := by kernel_rfl
theorem is_q142 : compFn Tryz.prog Tryz.f68 = some F_q142 := by kernel_rfl
theorem is_q18 : compFn Tryz.prog Tryz.f69 = some F_q18 := by kernel_rfl
theorem is_q140 : compFn Tryz.prog Tryz.f70 = some F_q140 := by kernel_rfl
theorem is_q117 : compFn Tryz.prog Tryz.f71 = some F_q117 := by kernel_rfl
theorem is_q172 : compFn Tryz.prog Tryz.f72 = some F_q172 := by kernel_rfl
theorem is_q22 : compFn Tryz.prog Tryz.f73 = some F_q22 := by kernel_rfl
theorem is_q23 : compFn Tryz.prog Tryz.f74 = some F_q23 := by kernel_rfl
theorem is_q134 : compFn Tryz.prog Tryz.f75 = some F_q134 := by kernel_rfl
theorem is_q137 : compFn Tryz.prog Tryz.f76 = some F_q137 := by kernel_rfl
theorem is_q176 : compFn Tryz.prog Tryz.f84 = some F_q176 := by kernel_rfl
theorem is_q175 : compFn Tryz.prog Tryz.f85 = some F_q175 := by kernel_rfl
theorem is_q177 : compFn Tryz.prog Tryz.f86 = some F_q177 := by kernel_rfl
theorem is_q81 : compFn Tryz.prog Tryz.f87 = some F_q81 := by kernel_rfl
theorem is_q78 : compFn Tryz.prog Tryz.f88 = some F_q78 := by kernel_rfl
theorem is_q80 : compFn Tryz.prog Tryz.f89 = some F_q80 := by kernel_rfl
theorem is_q181 : compFn Tryz.prog Tryz.f90 = some F_q181 := by kernel_rfl
theorem is_q152 : compFn Tryz.prog Tryz.f91 = some F_q152 := by kernel_rfl
theorem is_q76 : compFn Tryz.prog Tryz.f92 = some F_q76 := by kernel_rfl
theorem is_q103 : compFn Tryz.prog Tryz.f93 = some F_q103 := by kernel_rfl
theorem is_q74 : compFn Tryz.prog Tryz.f94 = some F_q74 := by kernel_rfl
theorem is_q72 : compFn Tryz.prog Tryz.f95 = some F_q72 := by kernel_rfl
theorem is_q106 : compFn Tryz.prog Tryz.f96 = some F_q106 := by kernel_rfl
theorem is_q105 : compFn Tryz.prog Tryz.f97 = some F_q105 := by kernel_rfl
theorem is_q146 : compFn Tryz.prog Tryz.f98 = some F_q146 := by kernel_rfl
theorem is_q124 : compFn Tryz.prog Tryz.f99 = some F_q124 := by kernel_rfl
theorem is_q90 : compFn Tryz.prog Tryz.f100 = some F_q90 := by kernel_rfl
theorem is_q56 : compFn Tryz.prog Tryz.f101 = some F_q56 := by kernel_rfl
theorem is_q125 : compFn Tryz.prog Tryz.f102 = some F_q125 := by kernel_rfl
theorem is_q9 : compFn Tryz.prog Tryz.f103 = some F_q9 := by kernel_rfl
theorem is_q36 : compFn Tryz.prog Tryz.f104 = some F_q36 := by kernel_rfl
theorem is_q39 : compFn Tryz.prog Tryz.f105 = some F_q39 := by kernel_rfl
theorem is_q19 : compFn Tryz.prog Tryz.f106 = some F_q19 := by kernel_rfl
theorem is_q16 : compFn Tryz.prog Tryz.f107 = some F_q16 := by kernel_rfl
theorem is_q21 : compFn Tryz.prog Tryz.f108 = some F_q21 := by kernel_rfl
theorem is_q7 : compFn Tryz.prog Tryz.f109 = some F_q7 := by kernel_rfl
theorem is_q6 : compFn Tryz.prog Tryz.f110 = some F_q6 := by kernel_rfl
theorem is_q182 : compFn Tryz.prog Tryz.f119 = some F_q182 := by kernel_rfl
theorem is_q178 : compFn Tryz.prog Tryz.f120 = some F_q178 := by kernel_rfl
theorem is_q79 : compFn Tryz.prog Tryz.f121 = some F_q79 := by kernel_rfl
end Go.Proofs.YtlnkifnkamojnaaGreat.Tz
