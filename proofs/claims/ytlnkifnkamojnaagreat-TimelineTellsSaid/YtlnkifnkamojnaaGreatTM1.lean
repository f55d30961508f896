/-
The tables are the program's. Conditions: none.
-/
import Derived.Test.YtlnkifnkamojnaaGreatGN
import Derived.Test.YtlnkifnkamojnaaGreatRows
import Derived.KernelRfl
namespace Go.Proofs.YtlnkifnkamojnaaGreat.Tz
open Go.Aug
set_option maxRecDepth 100000
theorem is_q95 : compFn Tryz.prog Tryz.f122 = some F_q95 := by kernel_rfl
theorem is_q84 : compFn Tryz.prog Tryz.f123 = some F_q84 := by kernel_rfl
theorem is_q128 : compFn Tryz.prog Tryz.f124 = some F_q128 := by kernel_rfl
theorem is_q82 : compFn Tryz.prog Tryz.f125 = some F_q82 := by kernel_rfl
theorem is_q148 : compFn Tryz.prog Tryz.f126 = some F_q148 := by kernel_rfl
theorem is_q156 : compFn Tryz.prog Tryz.f127 = some F_q156 := by kernel_rfl
theorem is_q83 : compFn Tryz.prog Tryz.f128 = some F_q83 := by kernel_rfl
theorem is_q126 : compFn Tryz.prog Tryz.f129 = some F_q126 := by kernel_rfl
theorem is_q104 : compFn Tryz.prog Tryz.f130 = some F_q104 := by kernel_rfl
theorem is_q129 : compFn Tryz.prog Tryz.f131 = some F_q129 := by kernel_rfl
theorem is_q139 : compFn Tryz.prog Tryz.f132 = some F_q139 := by kernel_rfl
theorem is_q75 : compFn Tryz.prog Tryz.f133 = some F_q75 := by kernel_rfl
theorem is_q135 : compFn Tryz.prog Tryz.f134 = some F_q135 := by kernel_rfl
theorem is_q73 : compFn Tryz.prog Tryz.f135 = some F_q73 := by kernel_rfl
theorem is_q115 : compFn Tryz.prog Tryz.f136 = some F_q115 := by kernel_rfl
theorem is_q113 : compFn Tryz.prog Tryz.f137 = some F_q113 := by kernel_rfl
theorem is_q110 : compFn Tryz.prog Tryz.f138 = some F_q110 := by kernel_rfl
theorem is_q108 : compFn Tryz.prog Tryz.f139 = some F_q108 := by kernel_rfl
theorem is_q112 : compFn Tryz.prog Tryz.f140 = some F_q112 := by kernel_rfl
theorem is_q153 : compFn Tryz.prog Tryz.f141 = some F_q153 := by kernel_rfl
theorem is_q57 : compFn Tryz.prog Tryz.f142 = some F_q57 := by kernel_rfl
theorem is_q11 : compFn Tryz.prog Tryz.f143 = some F_q11 := by kernel_rfl
theorem is_q15 : compFn Tryz.prog Tryz.f144 = some F_q15 := by kernel_rfl
theorem is_q10 : compFn Tryz.prog Tryz.f145 = some F_q10 := by kernel_rfl
theorem is_q12 : compFn Tryz.prog Tryz.f146 = some F_q12 := by kernel_rfl
theorem is_q13 : compFn Tryz.prog Tryz.f147 = some F_q13 := by kernel_rfl
theorem is_q14 : compFn Tryz.prog Tryz.f148 = some F_q14 := by kernel_rfl
theorem is_q31 : compFn Tryz.prog Tryz.f149 = some F_q31 := by kernel_rfl
theorem is_q30 : compFn Tryz.prog Tryz.f150 = some F_q30 := by kernel_rfl
theorem is_q37 : compFn Tryz.prog Tryz.f151 = some F_q37 := by kernel_rfl
theorem is_q35 : compFn Tryz.prog Tryz.f152 = some F_q35 := by kernel_rfl
theorem is_q34 : compFn Tryz.prog Tryz.f153 = some F_q34 := by kernel_rfl
theorem is_q32 : compFn Tryz.prog Tryz.f154 = some F_q32 := by kernel_rfl
theorem is_q25 : compFn Tryz.prog Tryz.f155 = some F_q25 := by kernel_rfl
theorem is_q27 : compFn Tryz.prog Tryz.f156 = some F_q27 := by kernel_rfl
theorem is_q8 : compFn Tryz.prog Tryz.f157 = some F_q8 := by kernel_rfl
theorem is_q141 : compFn Tryz.prog Tryz.f169 = some F_q141 := by kernel_rfl
theorem is_q150 : compFn Tryz.prog Tryz.f170 = some F_q150 := by kernel_rfl
theorem is_q136 : compFn Tryz.prog Tryz.f171 = some F_q136 := by kernel_rfl
theorem is_q143 : compFn Tryz.prog Tryz.f172 = some F_q143 := by kernel_rfl
theorem is_q98 : compFn Tryz.prog Tryz.f173 = some F_q98 := by kernel_rfl
theorem is_q102 : compFn Tryz.prog Tryz.f174 = some F_q102 := by kernel_rfl
theorem is_q111 : compFn Tryz.prog Tryz.f175 = some F_q111 := by kernel_rfl
theorem is_q114 : compFn Tryz.prog Tryz.f176 = some F_q114 := by kernel_rfl
theorem is_q109 : compFn Tryz.prog Tryz.f177 = some F_q109 := by kernel_rfl
theorem is_q107 : compFn Tryz.prog Tryz.f178 = some F_q107 := by kernel_rfl
theorem is_q116 : compFn Tryz.prog Tryz.f179 = some F_q116 := by kernel_rfl
theorem is_q149 : compFn Tryz.prog Tryz.f180 = some F_q149 := by kernel_rfl
theorem is_q157 : compFn Tryz.prog Tryz.f181 = some F_q157 := by kernel_rfl
theorem is_q29 : compFn Tryz.prog Tryz.f182 = some F_q29 := by kernel_rfl
theorem is_q26 : compFn Tryz.prog Tryz.f183 = some F_q26 := by kernel_rfl
theorem is_q24 : compFn Tryz.prog Tryz.f184 = some F_q24 := by kernel_rfl
theorem is_q33 : compFn Tryz.prog Tryz.f185 = some F_q33 := by kernel_rfl
theorem is_q154 : compFn Tryz.prog Tryz.f192 = some F_q154 := by kernel_rfl
theorem is_q99 : compFn Tryz.prog Tryz.f193 = some F_q99 := by kernel_rfl
theorem is_q58 : compFn Tryz.prog Tryz.f194 = some F_q58 := by kernel_rfl
theorem is_q120 : compFn Tryz.prog Tryz.f195 = some F_q120 := by kernel_rfl
theorem is_q118 : compFn Tryz.prog Tryz.f196 = some F_q118 := by kernel_rfl
theorem is_q151 : compFn Tryz.prog Tryz.f197 = some F_q151 := by kernel_rfl
theorem is_q38 : compFn Tryz.prog Tryz.f198 = some F_q38 := by kernel_rfl
theorem is_q100 : compFn Tryz.prog Tryz.f203 = some F_q100 := by kernel_rfl
theorem is_q127 : compFn Tryz.prog Tryz.f204 = some F_q127 := by kernel_rfl
theorem is_q59 : compFn Tryz.prog Tryz.f205 = some F_q59 := by kernel_rfl
theorem is_q101 : compFn Tryz.prog Tryz.f206 = some F_q101 := by kernel_rfl
theorem is_q60 : compFn Tryz.prog Tryz.f207 = some F_q60 := by kernel_rfl
theorem is_q155 : compFn Tryz.prog Tryz.f208 = some F_q155 := by kernel_rfl
theorem is_q40 : compFn Tryz.prog Tryz.f209 = some F_q40 := by kernel_rfl
theorem is_q28 : compFn Tryz.prog Tryz.f210 = some F_q28 := by kernel_rfl
theorem is_q138 : compFn Tryz.prog Tryz.f218 = some F_q138 := by kernel_rfl
theorem is_q50 : compFn Tryz.prog Tryz.f219 = some F_q50 := by kernel_rfl
theorem is_q144 : compFn Tryz.prog Tryz.f220 = some F_q144 := by kernel_rfl
theorem is_q71 : compFn Tryz.prog Tryz.f221 = some F_q71 := by kernel_rfl
theorem is_q180 : compFn Tryz.prog Tryz.f222 = some F_q180 := by kernel_rfl
theorem is_q54 : compFn Tryz.prog Tryz.f231 = some F_q54 := by kernel_rfl
theorem is_q70 : compFn Tryz.prog Tryz.f232 = some F_q70 := by kernel_rfl
theorem is_q179 : compFn Tryz.prog Tryz.f233 = some F_q179 := by kernel_rfl
theorem is_q183 : compFn Tryz.prog Tryz.f234 = some F_q183 := by kernel_rfl
theorem is_q68 : compFn Tryz.prog Tryz.f235 = some F_q68 := by kernel_rfl
theorem is_q64 : compFn Tryz.prog Tryz.f236 = some F_q64 := by kernel_rfl
theorem is_q65 : compFn Tryz.prog Tryz.f237 = some F_q65 := by kernel_rfl
theorem is_q158 : compFn Tryz.prog Tryz.f238 = some F_q158 := by kernel_rfl
theorem is_q186 : compFn Tryz.prog Tryz.f239 = some F_q186 := by kernel_rfl
theorem is_q51 : compFn Tryz.prog Tryz.f243 = some F_q51 := by kernel_rfl
end Go.Proofs.YtlnkifnkamojnaaGreat.Tz
