/- The abstract machine's code, held against the program's, function by function. No condition. -/
import Derived.Test.YtdpkipphgkphpaaGreatDoorAd
import Derived.Test.YtdpkipphgkphpaaGreatDoorTc
import Derived.Test.YtdpkipphgkphpaaGreatDoorProg
import Derived.KernelRfl
namespace Go.Absm.Ax
open Go.Proofs
def keys2 : List Nat := [142, 143, 144, 145, 146, 147, 148, 149, 150, 151, 152, 153, 154, 155, 156, 157, 158, 159, 160, 161, 162, 163, 166, 169, 170, 171, 172, 173, 175, 176, 177, 187, 188, 189, 192, 193, 194, 195, 196, 197, 198, 200, 201, 202, 204, 205, 206, 207, 208, 211, 212, 213, 214, 215, 223, 226, 229, 230]
theorem chk2 : okAll Tryz.prog tb dm keys2 = true := by kernel_rfl
end Go.Absm.Ax
