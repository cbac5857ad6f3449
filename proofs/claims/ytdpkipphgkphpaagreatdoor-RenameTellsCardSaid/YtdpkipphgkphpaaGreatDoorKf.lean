/- The card says rightly that the road of RenameTells starts no goroutine. No condition. -/
import Derived.Test.YtdpkipphgkphpaaGreatDoorRows
import Derived.JoinedCond
import Derived.SevenTiedAt
import Derived.KernelRfl
namespace Go.Proofs.YtdpkipphgkphpaaGreatDoor
set_option maxRecDepth 100000
theorem goesFact : false = Rows.renameTellsRow.goesBy Tryz.pinned.checked.prog := by kernel_rfl
end Go.Proofs.YtdpkipphgkphpaaGreatDoor
