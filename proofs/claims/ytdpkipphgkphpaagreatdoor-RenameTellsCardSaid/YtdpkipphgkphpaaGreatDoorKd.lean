/- The row lists the variables that the road of RenameTells names. No condition. -/
import Derived.Test.YtdpkipphgkphpaaGreatDoorRows
import Derived.JoinedCond
import Derived.SevenTiedAt
import Derived.KernelRfl
namespace Go.Proofs.YtdpkipphgkphpaaGreatDoor
set_option maxRecDepth 100000
theorem namedVarsFact : (Rows.renameTellsRow.named == Tryz.pinned.checked.prog.varsNamed 3) = true := by kernel_rfl
end Go.Proofs.YtdpkipphgkphpaaGreatDoor
