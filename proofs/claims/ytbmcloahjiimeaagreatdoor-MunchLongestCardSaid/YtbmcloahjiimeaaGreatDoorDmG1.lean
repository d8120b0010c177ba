/- The program's functions are compiled so (printed by a program of mine). -/
import Derived.Test.YtbmcloahjiimeaaGreatDoorDmF
import Derived.Test.YtbmcloahjiimeaaGreatDoorDmR
import Derived.Test.YtbmcloahjiimeaaGreatDoorChecked
import Derived.KernelRfl
namespace Go.Proofs.YtbmcloahjiimeaaGreatDoor.Dm
open Go Go.Dm
theorem cf50 : cfunc tiE Tryz.f50 = some df50 := by kernel_rfl
theorem cf52 : cfunc tiE Tryz.f52 = some df52 := by kernel_rfl
theorem cf53 : cfunc tiE Tryz.f53 = some df53 := by kernel_rfl
theorem cf54 : cfunc tiE Tryz.f54 = some df54 := by kernel_rfl
theorem cf55 : cfunc tiE Tryz.f55 = some df55 := by kernel_rfl
theorem cf56 : cfunc tiE Tryz.f56 = some df56 := by kernel_rfl
theorem cf57 : cfunc tiE Tryz.f57 = some df57 := by kernel_rfl
theorem cf67 : cfunc tiE Tryz.f67 = some df67 := by kernel_rfl
theorem cf68 : cfunc tiE Tryz.f68 = some df68 := by kernel_rfl
theorem cf69 : cfunc tiE Tryz.f69 = some df69 := by kernel_rfl
theorem cf70 : cfunc tiE Tryz.f70 = some df70 := by kernel_rfl
theorem cf71 : cfunc tiE Tryz.f71 = some df71 := by kernel_rfl
theorem cf72 : cfunc tiE Tryz.f72 = some df72 := by kernel_rfl
theorem cf73 : cfunc tiE Tryz.f73 = some df73 := by kernel_rfl
theorem cf74 : cfunc tiE Tryz.f74 = some df74 := by kernel_rfl
theorem cf75 : cfunc tiE Tryz.f75 = some df75 := by kernel_rfl
theorem cf76 : cfunc tiE Tryz.f76 = some df76 := by kernel_rfl
theorem cf77 : cfunc tiE Tryz.f77 = some df77 := by kernel_rfl
theorem cf78 : cfunc tiE Tryz.f78 = some df78 := by kernel_rfl
theorem cf79 : cfunc tiE Tryz.f79 = some df79 := by kernel_rfl
theorem cf80 : cfunc tiE Tryz.f80 = some df80 := by kernel_rfl
theorem cf81 : cfunc tiE Tryz.f81 = some df81 := by kernel_rfl
theorem cf82 : cfunc tiE Tryz.f82 = some df82 := by kernel_rfl
theorem cf83 : cfunc tiE Tryz.f83 = some df83 := by kernel_rfl
theorem cf84 : cfunc tiE Tryz.f84 = some df84 := by kernel_rfl
theorem cf85 : cfunc tiE Tryz.f85 = some df85 := by kernel_rfl
theorem cf90 : cfunc tiE Tryz.f90 = some df90 := by kernel_rfl
theorem cf91 : cfunc tiE Tryz.f91 = some df91 := by kernel_rfl
theorem cf92 : cfunc tiE Tryz.f92 = some df92 := by kernel_rfl
theorem cf93 : cfunc tiE Tryz.f93 = some df93 := by kernel_rfl
theorem cf94 : cfunc tiE Tryz.f94 = some df94 := by kernel_rfl
theorem cf95 : cfunc tiE Tryz.f95 = some df95 := by kernel_rfl
theorem cf96 : cfunc tiE Tryz.f96 = some df96 := by kernel_rfl
theorem cf97 : cfunc tiE Tryz.f97 = some df97 := by kernel_rfl
theorem cf98 : cfunc tiE Tryz.f98 = some df98 := by kernel_rfl
theorem cf99 : cfunc tiE Tryz.f99 = some df99 := by kernel_rfl
theorem cf100 : cfunc tiE Tryz.f100 = some df100 := by kernel_rfl
theorem cf101 : cfunc tiE Tryz.f101 = some df101 := by kernel_rfl
theorem cf102 : cfunc tiE Tryz.f102 = some df102 := by kernel_rfl
theorem cf103 : cfunc tiE Tryz.f103 = some df103 := by kernel_rfl
end Go.Proofs.YtbmcloahjiimeaaGreatDoor.Dm
