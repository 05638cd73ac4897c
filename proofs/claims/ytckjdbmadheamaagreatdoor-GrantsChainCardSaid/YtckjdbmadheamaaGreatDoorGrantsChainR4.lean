/- Runs of GrantsChain by the fast evaluator, 4: each by the kernel. -/
import Derived.Test.YtckjdbmadheamaaGreatDoorB1
set_option linter.all false
namespace Go.Proofs.YtckjdbmadheamaaGreatDoor.grantsChain
open Go Go.Vai Go.Fast
variable [S : Sym]
theorem run20 : vT (evK Tryz.prog extF (orcW (resT [(0, 3, 2), (1, 10, 6), (2, 2, 1)])) 400 11 [symV 0, symV 1, symV 2] (h0 vars)).v = true := by kernel_rfl
theorem run21 : vT (evK Tryz.prog extF (orcW (resT [(0, 3, 2), (1, 10, 6), (2, 2, 2)])) 400 11 [symV 0, symV 1, symV 2] (h0 vars)).v = true := by kernel_rfl
theorem run22 : vT (evK Tryz.prog extF (orcW (resT [(0, 3, 2), (1, 10, 7), (2, 2, 1)])) 400 11 [symV 0, symV 1, symV 2] (h0 vars)).v = true := by kernel_rfl
theorem run23 : vT (evK Tryz.prog extF (orcW (resT [(0, 3, 2), (1, 10, 7), (2, 2, 2)])) 400 11 [symV 0, symV 1, symV 2] (h0 vars)).v = true := by kernel_rfl
theorem run24 : vT (evK Tryz.prog extF (orcW (resT [(0, 3, 2), (1, 10, 8), (2, 2, 1)])) 400 11 [symV 0, symV 1, symV 2] (h0 vars)).v = true := by kernel_rfl
end Go.Proofs.YtckjdbmadheamaaGreatDoor.grantsChain
