/-
The tables are the program's. Conditions: none.
-/
import Derived.Test.YtlnkifnkamojnaaGreatGN
import Derived.Test.YtlnkifnkamojnaaGreatRows
import Derived.KernelRfl
namespace Go.Proofs.YtlnkifnkamojnaaGreat.Tz
open Go.Aug
set_option maxRecDepth 100000
theorem is_q43 : compFn Tryz.prog Tryz.f244 = some F_q43 := by kernel_rfl
theorem is_q40 : compFn Tryz.prog Tryz.f245 = some F_q40 := by kernel_rfl
theorem is_q84 : compFn Tryz.prog Tryz.f247 = some F_q84 := by kernel_rfl
theorem is_q173 : compFn Tryz.prog Tryz.f248 = some F_q173 := by kernel_rfl
theorem is_q57 : compFn Tryz.prog Tryz.f249 = some F_q57 := by kernel_rfl
theorem is_q49 : compFn Tryz.prog Tryz.f250 = some F_q49 := by kernel_rfl
theorem is_q54 : compFn Tryz.prog Tryz.f251 = some F_q54 := by kernel_rfl
theorem is_q41 : compFn Tryz.prog Tryz.f253 = some F_q41 := by kernel_rfl
theorem is_q85 : compFn Tryz.prog Tryz.f256 = some F_q85 := by kernel_rfl
theorem is_q172 : compFn Tryz.prog Tryz.f257 = some F_q172 := by kernel_rfl
theorem is_q50 : compFn Tryz.prog Tryz.f258 = some F_q50 := by kernel_rfl
theorem is_q51 : compFn Tryz.prog Tryz.f259 = some F_q51 := by kernel_rfl
theorem is_q55 : compFn Tryz.prog Tryz.f260 = some F_q55 := by kernel_rfl
end Go.Proofs.YtlnkifnkamojnaaGreat.Tz
