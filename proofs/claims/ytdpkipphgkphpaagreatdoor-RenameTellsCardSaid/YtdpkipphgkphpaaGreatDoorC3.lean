/- The abstract machine's code, held against the program's, function by function. No condition. -/
import Derived.Test.YtdpkipphgkphpaaGreatDoorAd
import Derived.Test.YtdpkipphgkphpaaGreatDoorTc
import Derived.Test.YtdpkipphgkphpaaGreatDoorProg
import Derived.KernelRfl
namespace Go.Absm.Ax
open Go.Proofs
def keys3 : List Nat := [231, 232, 233, 244, 248, 249, 250, 251, 252, 255, 256, 257, 259, 268, 269, 270, 271, 272, 273, 274, 276, 277, 278, 279, 281, 285, 286, 287, 293, 294, 295, 296, 297, 298, 299, 300, 301, 304, 305, 306, 307, 308, 309, 310, 311, 315, 316, 317, 319, 321, 322, 323, 324, 325, 330, 331, 332, 333]
theorem chk3 : okAll Tryz.prog tb dm keys3 = true := by kernel_rfl
end Go.Absm.Ax
