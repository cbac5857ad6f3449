/- The abstract machine's code, held against the program's, function by function. No condition. -/
import Derived.Test.YtdpkipphgkphpaaGreatDoorAd
import Derived.Test.YtdpkipphgkphpaaGreatDoorTc
import Derived.Test.YtdpkipphgkphpaaGreatDoorProg
import Derived.KernelRfl
namespace Go.Absm.Ax
open Go.Proofs
def keys1 : List Nat := [64, 65, 66, 67, 68, 69, 70, 72, 73, 74, 75, 76, 77, 78, 79, 80, 84, 85, 90, 91, 92, 93, 94, 95, 96, 97, 98, 99, 100, 101, 102, 103, 104, 106, 107, 108, 109, 110, 111, 112, 113, 114, 116, 117, 118, 119, 120, 121, 131, 132, 133, 134, 135, 136, 138, 139, 140, 141]
theorem chk1 : okAll Tryz.prog tb dm keys1 = true := by kernel_rfl
end Go.Absm.Ax
