/- Runs of RightsForms by the fast evaluator, 1: each by the kernel. -/
import Derived.Test.YtckjdbmadheamaaGreatDoorB1
set_option linter.all false
namespace Go.Proofs.YtckjdbmadheamaaGreatDoor.rightsForms
open Go Go.Vai Go.Fast
variable [S : Sym]
theorem run1 : vT (evK Tryz.prog extF (orcW (resT [(0, 9, 2)])) 400 6 [symV 0] (h0 vars)).v = true := by kernel_rfl
end Go.Proofs.YtckjdbmadheamaaGreatDoor.rightsForms
