/- Runs of RightsLimits by the fast evaluator, 3: each by the kernel. -/
import Derived.Test.YtckjdbmadheamaaGreatDoorB1
set_option linter.all false
namespace Go.Proofs.YtckjdbmadheamaaGreatDoor.rightsLimits
open Go Go.Vai Go.Fast
variable [S : Sym]
theorem run9 : vT (evK Tryz.prog extF (orcW (resT [(1, 6, 4), (0, 3, 1)])) 400 5 [symV 0, symV 1] (h0 vars)).v = true := by kernel_rfl
theorem run10 : vT (evK Tryz.prog extF (orcW (resT [(1, 6, 4), (0, 3, 2)])) 400 5 [symV 0, symV 1] (h0 vars)).v = true := by kernel_rfl
theorem run11 : vT (evK Tryz.prog extF (orcW (resT [(1, 6, 4), (0, 3, 3)])) 400 5 [symV 0, symV 1] (h0 vars)).v = true := by kernel_rfl
end Go.Proofs.YtckjdbmadheamaaGreatDoor.rightsLimits
