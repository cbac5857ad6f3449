/- The row says rightly that the road of RenameTells recurses. No condition. -/
import Derived.Test.YtdpkipphgkphpaaGreatDoorRows
import Derived.JoinedCond
import Derived.SevenTiedAt
import Derived.KernelRfl
namespace Go.Proofs.YtdpkipphgkphpaaGreatDoor
set_option maxRecDepth 100000
theorem recursesFact : (Rows.renameTellsRow.recurses == Tryz.pinned.checked.prog.recurses 3) = true := by kernel_rfl
end Go.Proofs.YtdpkipphgkphpaaGreatDoor
