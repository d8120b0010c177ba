/- The program's functions are compiled so (printed by a program of mine). -/
import Derived.Test.YtbmcloahjiimeaaGreatDoorDmF
import Derived.Test.YtbmcloahjiimeaaGreatDoorDmR
import Derived.Test.YtbmcloahjiimeaaGreatDoorChecked
import Derived.KernelRfl
namespace Go.Proofs.YtbmcloahjiimeaaGreatDoor.Dm
open Go Go.Dm
theorem cf147 : cfunc tiE Tryz.f147 = some df147 := by kernel_rfl
theorem cf148 : cfunc tiE Tryz.f148 = some df148 := by kernel_rfl
theorem cf149 : cfunc tiE Tryz.f149 = some df149 := by kernel_rfl
theorem cf150 : cfunc tiE Tryz.f150 = some df150 := by kernel_rfl
theorem cf151 : cfunc tiE Tryz.f151 = some df151 := by kernel_rfl
end Go.Proofs.YtbmcloahjiimeaaGreatDoor.Dm
