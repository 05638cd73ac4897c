/- Runs of GrantsChain by the fast evaluator, 9: each by the kernel. -/
import Derived.Test.YtckjdbmadheamaaGreatDoorB1
set_option linter.all false
namespace Go.Proofs.YtckjdbmadheamaaGreatDoor.grantsChain
open Go Go.Vai Go.Fast
variable [S : Sym]
theorem run45 : vT (evK Tryz.prog extF (orcW (resT [(0, 3, 3), (1, 10, 8), (2, 2, 2)])) 400 11 [symV 0, symV 1, symV 2] (h0 vars)).v = true := by kernel_rfl
theorem run46 : vT (evK Tryz.prog extF (orcW (resT [(0, 3, 3), (1, 10, 9), (2, 2, 1)])) 400 11 [symV 0, symV 1, symV 2] (h0 vars)).v = true := by kernel_rfl
theorem run47 : vT (evK Tryz.prog extF (orcW (resT [(0, 3, 3), (1, 10, 9), (2, 2, 2)])) 400 11 [symV 0, symV 1, symV 2] (h0 vars)).v = true := by kernel_rfl
theorem run48 : vT (evK Tryz.prog extF (orcW (resT [(0, 3, 3), (1, 10, 10), (2, 2, 1)])) 400 11 [symV 0, symV 1, symV 2] (h0 vars)).v = true := by kernel_rfl
theorem run49 : vT (evK Tryz.prog extF (orcW (resT [(0, 3, 3), (1, 10, 10), (2, 2, 2)])) 400 11 [symV 0, symV 1, symV 2] (h0 vars)).v = true := by kernel_rfl
end Go.Proofs.YtckjdbmadheamaaGreatDoor.grantsChain
