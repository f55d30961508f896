/-
The tables are the program's. Conditions: none.
-/
import Derived.Test.YtlnkifnkamojnaaGreatGN
import Derived.Test.YtlnkifnkamojnaaGreatRows
import Derived.KernelRfl
namespace Go.Proofs.YtlnkifnkamojnaaGreat.Tz
open Go.Aug
set_option maxRecDepth 100000
theorem is_q55 : compFn Tryz.prog Tryz.f244 = some F_q55 := by kernel_rfl
theorem is_q52 : compFn Tryz.prog Tryz.f245 = some F_q52 := by kernel_rfl
theorem is_q96 : compFn Tryz.prog Tryz.f247 = some F_q96 := by kernel_rfl
theorem is_q185 : compFn Tryz.prog Tryz.f248 = some F_q185 := by kernel_rfl
theorem is_q69 : compFn Tryz.prog Tryz.f249 = some F_q69 := by kernel_rfl
theorem is_q61 : compFn Tryz.prog Tryz.f250 = some F_q61 := by kernel_rfl
theorem is_q66 : compFn Tryz.prog Tryz.f251 = some F_q66 := by kernel_rfl
theorem is_q53 : compFn Tryz.prog Tryz.f253 = some F_q53 := by kernel_rfl
theorem is_q97 : compFn Tryz.prog Tryz.f256 = some F_q97 := by kernel_rfl
theorem is_q184 : compFn Tryz.prog Tryz.f257 = some F_q184 := by kernel_rfl
theorem is_q62 : compFn Tryz.prog Tryz.f258 = some F_q62 := by kernel_rfl
theorem is_q63 : compFn Tryz.prog Tryz.f259 = some F_q63 := by kernel_rfl
theorem is_q67 : compFn Tryz.prog Tryz.f260 = some F_q67 := by kernel_rfl
end Go.Proofs.YtlnkifnkamojnaaGreat.Tz
