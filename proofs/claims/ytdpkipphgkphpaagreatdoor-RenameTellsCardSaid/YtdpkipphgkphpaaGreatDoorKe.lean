/- The closed facts of the row, joined. No condition. -/
import Derived.Test.YtdpkipphgkphpaaGreatDoorKa
import Derived.Test.YtdpkipphgkphpaaGreatDoorKb
import Derived.Test.YtdpkipphgkphpaaGreatDoorKc
import Derived.Test.YtdpkipphgkphpaaGreatDoorKd
import Derived.Test.YtdpkipphgkphpaaGreatDoorRows
import Derived.JoinedCond
import Derived.SevenTiedAt
import Derived.KernelRfl
namespace Go.Proofs.YtdpkipphgkphpaaGreatDoor
set_option maxRecDepth 100000
theorem closedFacts : joinedFacts Tryz.pinned.checked.prog 3 Tryz.f3 (OpenSpec.ofChange Rows.renameTellsSpec).bare Rows.renameTellsRow = true := by
  unfold joinedFacts
  rw [inPlaceFact, unfollowedFact, recursesFact, namedVarsFact]
  kernel_rfl
end Go.Proofs.YtdpkipphgkphpaaGreatDoor
