/- The program's functions are compiled so (printed by a program of mine). -/
import Derived.Test.YtbmcloahjiimeaaGreatDoorDmF
import Derived.Test.YtbmcloahjiimeaaGreatDoorDmR
import Derived.Test.YtbmcloahjiimeaaGreatDoorChecked
import Derived.KernelRfl
namespace Go.Proofs.YtbmcloahjiimeaaGreatDoor.Dm
open Go Go.Dm
theorem cf106 : cfunc tiE Tryz.f106 = some df106 := by kernel_rfl
theorem cf107 : cfunc tiE Tryz.f107 = some df107 := by kernel_rfl
theorem cf108 : cfunc tiE Tryz.f108 = some df108 := by kernel_rfl
theorem cf109 : cfunc tiE Tryz.f109 = some df109 := by kernel_rfl
theorem cf110 : cfunc tiE Tryz.f110 = some df110 := by kernel_rfl
theorem cf111 : cfunc tiE Tryz.f111 = some df111 := by kernel_rfl
theorem cf112 : cfunc tiE Tryz.f112 = some df112 := by kernel_rfl
theorem cf113 : cfunc tiE Tryz.f113 = some df113 := by kernel_rfl
theorem cf114 : cfunc tiE Tryz.f114 = some df114 := by kernel_rfl
theorem cf115 : cfunc tiE Tryz.f115 = some df115 := by kernel_rfl
theorem cf117 : cfunc tiE Tryz.f117 = some df117 := by kernel_rfl
theorem cf118 : cfunc tiE Tryz.f118 = some df118 := by kernel_rfl
theorem cf119 : cfunc tiE Tryz.f119 = some df119 := by kernel_rfl
theorem cf120 : cfunc tiE Tryz.f120 = some df120 := by kernel_rfl
theorem cf121 : cfunc tiE Tryz.f121 = some df121 := by kernel_rfl
theorem cf122 : cfunc tiE Tryz.f122 = some df122 := by kernel_rfl
theorem cf123 : cfunc tiE Tryz.f123 = some df123 := by kernel_rfl
theorem cf124 : cfunc tiE Tryz.f124 = some df124 := by kernel_rfl
theorem cf125 : cfunc tiE Tryz.f125 = some df125 := by kernel_rfl
theorem cf126 : cfunc tiE Tryz.f126 = some df126 := by kernel_rfl
theorem cf127 : cfunc tiE Tryz.f127 = some df127 := by kernel_rfl
theorem cf128 : cfunc tiE Tryz.f128 = some df128 := by kernel_rfl
theorem cf129 : cfunc tiE Tryz.f129 = some df129 := by kernel_rfl
theorem cf130 : cfunc tiE Tryz.f130 = some df130 := by kernel_rfl
theorem cf131 : cfunc tiE Tryz.f131 = some df131 := by kernel_rfl
theorem cf132 : cfunc tiE Tryz.f132 = some df132 := by kernel_rfl
theorem cf133 : cfunc tiE Tryz.f133 = some df133 := by kernel_rfl
theorem cf134 : cfunc tiE Tryz.f134 = some df134 := by kernel_rfl
theorem cf135 : cfunc tiE Tryz.f135 = some df135 := by kernel_rfl
theorem cf136 : cfunc tiE Tryz.f136 = some df136 := by kernel_rfl
theorem cf137 : cfunc tiE Tryz.f137 = some df137 := by kernel_rfl
theorem cf138 : cfunc tiE Tryz.f138 = some df138 := by kernel_rfl
theorem cf139 : cfunc tiE Tryz.f139 = some df139 := by kernel_rfl
theorem cf140 : cfunc tiE Tryz.f140 = some df140 := by kernel_rfl
theorem cf141 : cfunc tiE Tryz.f141 = some df141 := by kernel_rfl
theorem cf142 : cfunc tiE Tryz.f142 = some df142 := by kernel_rfl
theorem cf143 : cfunc tiE Tryz.f143 = some df143 := by kernel_rfl
theorem cf144 : cfunc tiE Tryz.f144 = some df144 := by kernel_rfl
theorem cf145 : cfunc tiE Tryz.f145 = some df145 := by kernel_rfl
theorem cf146 : cfunc tiE Tryz.f146 = some df146 := by kernel_rfl
end Go.Proofs.YtbmcloahjiimeaaGreatDoor.Dm
