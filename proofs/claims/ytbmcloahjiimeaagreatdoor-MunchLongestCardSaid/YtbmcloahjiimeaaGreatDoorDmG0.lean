/- The program's functions are compiled so (printed by a program of mine). -/
import Derived.Test.YtbmcloahjiimeaaGreatDoorDmF
import Derived.Test.YtbmcloahjiimeaaGreatDoorDmR
import Derived.Test.YtbmcloahjiimeaaGreatDoorChecked
import Derived.KernelRfl
namespace Go.Proofs.YtbmcloahjiimeaaGreatDoor.Dm
open Go Go.Dm
theorem cf3 : cfunc tiE Tryz.f3 = some df3 := by kernel_rfl
theorem cf4 : cfunc tiE Tryz.f4 = some df4 := by kernel_rfl
theorem cf5 : cfunc tiE Tryz.f5 = some df5 := by kernel_rfl
theorem cf6 : cfunc tiE Tryz.f6 = some df6 := by kernel_rfl
theorem cf7 : cfunc tiE Tryz.f7 = some df7 := by kernel_rfl
theorem cf9 : cfunc tiE Tryz.f9 = some df9 := by kernel_rfl
theorem cf10 : cfunc tiE Tryz.f10 = some df10 := by kernel_rfl
theorem cf11 : cfunc tiE Tryz.f11 = some df11 := by kernel_rfl
theorem cf12 : cfunc tiE Tryz.f12 = some df12 := by kernel_rfl
theorem cf13 : cfunc tiE Tryz.f13 = some df13 := by kernel_rfl
theorem cf14 : cfunc tiE Tryz.f14 = some df14 := by kernel_rfl
theorem cf15 : cfunc tiE Tryz.f15 = some df15 := by kernel_rfl
theorem cf16 : cfunc tiE Tryz.f16 = some df16 := by kernel_rfl
theorem cf17 : cfunc tiE Tryz.f17 = some df17 := by kernel_rfl
theorem cf18 : cfunc tiE Tryz.f18 = some df18 := by kernel_rfl
theorem cf19 : cfunc tiE Tryz.f19 = some df19 := by kernel_rfl
theorem cf20 : cfunc tiE Tryz.f20 = some df20 := by kernel_rfl
theorem cf21 : cfunc tiE Tryz.f21 = some df21 := by kernel_rfl
theorem cf22 : cfunc tiE Tryz.f22 = some df22 := by kernel_rfl
theorem cf23 : cfunc tiE Tryz.f23 = some df23 := by kernel_rfl
theorem cf24 : cfunc tiE Tryz.f24 = some df24 := by kernel_rfl
theorem cf25 : cfunc tiE Tryz.f25 = some df25 := by kernel_rfl
theorem cf26 : cfunc tiE Tryz.f26 = some df26 := by kernel_rfl
theorem cf29 : cfunc tiE Tryz.f29 = some df29 := by kernel_rfl
theorem cf30 : cfunc tiE Tryz.f30 = some df30 := by kernel_rfl
theorem cf35 : cfunc tiE Tryz.f35 = some df35 := by kernel_rfl
theorem cf36 : cfunc tiE Tryz.f36 = some df36 := by kernel_rfl
theorem cf37 : cfunc tiE Tryz.f37 = some df37 := by kernel_rfl
theorem cf38 : cfunc tiE Tryz.f38 = some df38 := by kernel_rfl
theorem cf39 : cfunc tiE Tryz.f39 = some df39 := by kernel_rfl
theorem cf40 : cfunc tiE Tryz.f40 = some df40 := by kernel_rfl
theorem cf41 : cfunc tiE Tryz.f41 = some df41 := by kernel_rfl
theorem cf42 : cfunc tiE Tryz.f42 = some df42 := by kernel_rfl
theorem cf43 : cfunc tiE Tryz.f43 = some df43 := by kernel_rfl
theorem cf44 : cfunc tiE Tryz.f44 = some df44 := by kernel_rfl
theorem cf45 : cfunc tiE Tryz.f45 = some df45 := by kernel_rfl
theorem cf46 : cfunc tiE Tryz.f46 = some df46 := by kernel_rfl
theorem cf47 : cfunc tiE Tryz.f47 = some df47 := by kernel_rfl
theorem cf48 : cfunc tiE Tryz.f48 = some df48 := by kernel_rfl
theorem cf49 : cfunc tiE Tryz.f49 = some df49 := by kernel_rfl
end Go.Proofs.YtbmcloahjiimeaaGreatDoor.Dm
