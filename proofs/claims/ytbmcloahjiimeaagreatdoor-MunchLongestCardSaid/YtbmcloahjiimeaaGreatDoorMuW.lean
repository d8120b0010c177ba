/- The laws' own example, run on the D-machine: by the kernel alone. -/
import Derived.Test.YtbmcloahjiimeaaGreatDoorMuT
set_option linter.all false
namespace Go.Proofs.YtbmcloahjiimeaaGreatDoor.Dm
open Go Go.Dm
theorem works_run : isTrue1 (dex D0 100000 (.call 9 []) fr0 h0) = true := by decide +kernel
end Go.Proofs.YtbmcloahjiimeaaGreatDoor.Dm
