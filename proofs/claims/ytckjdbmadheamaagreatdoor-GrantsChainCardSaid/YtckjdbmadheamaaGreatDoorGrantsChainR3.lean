/- Runs of GrantsChain by the fast evaluator, 3: each by the kernel. -/
import Derived.Test.YtckjdbmadheamaaGreatDoorB1
set_option linter.all false
namespace Go.Proofs.YtckjdbmadheamaaGreatDoor.grantsChain
open Go Go.Vai Go.Fast
variable [S : Sym]
theorem run15 : vT (evK Tryz.prog extF (orcW (resT [(0, 3, 2), (1, 10, 3), (2, 2, 2)])) 400 11 [symV 0, symV 1, symV 2] (h0 vars)).v = true := by kernel_rfl
theorem run16 : vT (evK Tryz.prog extF (orcW (resT [(0, 3, 2), (1, 10, 4), (2, 2, 1)])) 400 11 [symV 0, symV 1, symV 2] (h0 vars)).v = true := by kernel_rfl
theorem run17 : vT (evK Tryz.prog extF (orcW (resT [(0, 3, 2), (1, 10, 4), (2, 2, 2)])) 400 11 [symV 0, symV 1, symV 2] (h0 vars)).v = true := by kernel_rfl
theorem run18 : vT (evK Tryz.prog extF (orcW (resT [(0, 3, 2), (1, 10, 5), (2, 2, 1)])) 400 11 [symV 0, symV 1, symV 2] (h0 vars)).v = true := by kernel_rfl
theorem run19 : vT (evK Tryz.prog extF (orcW (resT [(0, 3, 2), (1, 10, 5), (2, 2, 2)])) 400 11 [symV 0, symV 1, symV 2] (h0 vars)).v = true := by kernel_rfl
end Go.Proofs.YtckjdbmadheamaaGreatDoor.grantsChain
