/- Runs of GrantsChain by the fast evaluator, 1: each by the kernel. -/
import Derived.Test.YtckjdbmadheamaaGreatDoorB1
set_option linter.all false
namespace Go.Proofs.YtckjdbmadheamaaGreatDoor.grantsChain
open Go Go.Vai Go.Fast
variable [S : Sym]
theorem run5 : vT (evK Tryz.prog extF (orcW (resT [(0, 3, 1), (1, 10, 6)])) 400 11 [symV 0, symV 1, symV 2] (h0 vars)).v = true := by kernel_rfl
theorem run6 : vT (evK Tryz.prog extF (orcW (resT [(0, 3, 1), (1, 10, 7)])) 400 11 [symV 0, symV 1, symV 2] (h0 vars)).v = true := by kernel_rfl
theorem run7 : vT (evK Tryz.prog extF (orcW (resT [(0, 3, 1), (1, 10, 8)])) 400 11 [symV 0, symV 1, symV 2] (h0 vars)).v = true := by kernel_rfl
theorem run8 : vT (evK Tryz.prog extF (orcW (resT [(0, 3, 1), (1, 10, 9)])) 400 11 [symV 0, symV 1, symV 2] (h0 vars)).v = true := by kernel_rfl
theorem run9 : vT (evK Tryz.prog extF (orcW (resT [(0, 3, 1), (1, 10, 10)])) 400 11 [symV 0, symV 1, symV 2] (h0 vars)).v = true := by kernel_rfl
end Go.Proofs.YtckjdbmadheamaaGreatDoor.grantsChain
