/-
The tables are the program's. Conditions: none.
-/
import Derived.Test.YtlnkifnkamojnaaGreatGN
import Derived.Test.YtlnkifnkamojnaaGreatRows
import Derived.KernelRfl
namespace Go.Proofs.YtlnkifnkamojnaaGreat.Tz
open Go.Aug
set_option maxRecDepth 100000
theorem is_q48 : compFn Tryz.prog Tryz.f244 = some F_q48 := by kernel_rfl
theorem is_q45 : compFn Tryz.prog Tryz.f245 = some F_q45 := by kernel_rfl
theorem is_q89 : compFn Tryz.prog Tryz.f247 = some F_q89 := by kernel_rfl
theorem is_q178 : compFn Tryz.prog Tryz.f248 = some F_q178 := by kernel_rfl
theorem is_q62 : compFn Tryz.prog Tryz.f249 = some F_q62 := by kernel_rfl
theorem is_q54 : compFn Tryz.prog Tryz.f250 = some F_q54 := by kernel_rfl
theorem is_q59 : compFn Tryz.prog Tryz.f251 = some F_q59 := by kernel_rfl
theorem is_q46 : compFn Tryz.prog Tryz.f253 = some F_q46 := by kernel_rfl
theorem is_q90 : compFn Tryz.prog Tryz.f256 = some F_q90 := by kernel_rfl
theorem is_q177 : compFn Tryz.prog Tryz.f257 = some F_q177 := by kernel_rfl
theorem is_q55 : compFn Tryz.prog Tryz.f258 = some F_q55 := by kernel_rfl
theorem is_q56 : compFn Tryz.prog Tryz.f259 = some F_q56 := by kernel_rfl
theorem is_q60 : compFn Tryz.prog Tryz.f260 = some F_q60 := by kernel_rfl
end Go.Proofs.YtlnkifnkamojnaaGreat.Tz
