/- Runs of GrantsChain by the fast evaluator, 0: each by the kernel. -/
import Derived.Test.YtckjdbmadheamaaGreatDoorB1
set_option linter.all false
namespace Go.Proofs.YtckjdbmadheamaaGreatDoor.grantsChain
open Go Go.Vai Go.Fast
variable [S : Sym]
theorem run0 : vT (evK Tryz.prog extF (orcW (resT [(0, 3, 1), (1, 10, 1)])) 400 11 [symV 0, symV 1, symV 2] (h0 vars)).v = true := by kernel_rfl
theorem run1 : vT (evK Tryz.prog extF (orcW (resT [(0, 3, 1), (1, 10, 2)])) 400 11 [symV 0, symV 1, symV 2] (h0 vars)).v = true := by kernel_rfl
theorem run2 : vT (evK Tryz.prog extF (orcW (resT [(0, 3, 1), (1, 10, 3)])) 400 11 [symV 0, symV 1, symV 2] (h0 vars)).v = true := by kernel_rfl
theorem run3 : vT (evK Tryz.prog extF (orcW (resT [(0, 3, 1), (1, 10, 4)])) 400 11 [symV 0, symV 1, symV 2] (h0 vars)).v = true := by kernel_rfl
theorem run4 : vT (evK Tryz.prog extF (orcW (resT [(0, 3, 1), (1, 10, 5)])) 400 11 [symV 0, symV 1, symV 2] (h0 vars)).v = true := by kernel_rfl
end Go.Proofs.YtckjdbmadheamaaGreatDoor.grantsChain
