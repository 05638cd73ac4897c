/- Runs of RightsLimits by the fast evaluator, 5: each by the kernel. -/
import Derived.Test.YtckjdbmadheamaaGreatDoorB1
set_option linter.all false
namespace Go.Proofs.YtckjdbmadheamaaGreatDoor.rightsLimits
open Go Go.Vai Go.Fast
variable [S : Sym]
theorem run15 : vT (evK Tryz.prog extF (orcW (resT [(1, 6, 6), (0, 3, 1)])) 400 5 [symV 0, symV 1] (h0 vars)).v = true := by kernel_rfl
theorem run16 : vT (evK Tryz.prog extF (orcW (resT [(1, 6, 6), (0, 3, 2)])) 400 5 [symV 0, symV 1] (h0 vars)).v = true := by kernel_rfl
theorem run17 : vT (evK Tryz.prog extF (orcW (resT [(1, 6, 6), (0, 3, 3)])) 400 5 [symV 0, symV 1] (h0 vars)).v = true := by kernel_rfl
end Go.Proofs.YtckjdbmadheamaaGreatDoor.rightsLimits
