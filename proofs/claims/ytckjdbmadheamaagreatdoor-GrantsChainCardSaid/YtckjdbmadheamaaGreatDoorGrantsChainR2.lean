/- Runs of GrantsChain by the fast evaluator, 2: each by the kernel. -/
import Derived.Test.YtckjdbmadheamaaGreatDoorB1
set_option linter.all false
namespace Go.Proofs.YtckjdbmadheamaaGreatDoor.grantsChain
open Go Go.Vai Go.Fast
variable [S : Sym]
theorem run10 : vT (evK Tryz.prog extF (orcW (resT [(0, 3, 2), (1, 10, 1), (2, 2, 1)])) 400 11 [symV 0, symV 1, symV 2] (h0 vars)).v = true := by kernel_rfl
theorem run11 : vT (evK Tryz.prog extF (orcW (resT [(0, 3, 2), (1, 10, 1), (2, 2, 2)])) 400 11 [symV 0, symV 1, symV 2] (h0 vars)).v = true := by kernel_rfl
theorem run12 : vT (evK Tryz.prog extF (orcW (resT [(0, 3, 2), (1, 10, 2), (2, 2, 1)])) 400 11 [symV 0, symV 1, symV 2] (h0 vars)).v = true := by kernel_rfl
theorem run13 : vT (evK Tryz.prog extF (orcW (resT [(0, 3, 2), (1, 10, 2), (2, 2, 2)])) 400 11 [symV 0, symV 1, symV 2] (h0 vars)).v = true := by kernel_rfl
theorem run14 : vT (evK Tryz.prog extF (orcW (resT [(0, 3, 2), (1, 10, 3), (2, 2, 1)])) 400 11 [symV 0, symV 1, symV 2] (h0 vars)).v = true := by kernel_rfl
end Go.Proofs.YtckjdbmadheamaaGreatDoor.grantsChain
