/- Runs of RightsLimits by the fast evaluator, 4: each by the kernel. -/
import Derived.Test.YtckjdbmadheamaaGreatDoorB1
set_option linter.all false
namespace Go.Proofs.YtckjdbmadheamaaGreatDoor.rightsLimits
open Go Go.Vai Go.Fast
variable [S : Sym]
theorem run12 : vT (evK Tryz.prog extF (orcW (resT [(1, 6, 5), (0, 3, 1)])) 400 5 [symV 0, symV 1] (h0 vars)).v = true := by kernel_rfl
theorem run13 : vT (evK Tryz.prog extF (orcW (resT [(1, 6, 5), (0, 3, 2)])) 400 5 [symV 0, symV 1] (h0 vars)).v = true := by kernel_rfl
theorem run14 : vT (evK Tryz.prog extF (orcW (resT [(1, 6, 5), (0, 3, 3)])) 400 5 [symV 0, symV 1] (h0 vars)).v = true := by kernel_rfl
end Go.Proofs.YtckjdbmadheamaaGreatDoor.rightsLimits
