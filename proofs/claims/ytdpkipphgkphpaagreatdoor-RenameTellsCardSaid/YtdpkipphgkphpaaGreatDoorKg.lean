/- Small closed facts of the row and its card. No condition. -/
import Derived.Test.YtdpkipphgkphpaaGreatDoorRows
import Derived.JoinedCond
import Derived.SevenTiedAt
import Derived.KernelRfl
namespace Go.Proofs.YtdpkipphgkphpaaGreatDoor
set_option maxRecDepth 100000
theorem wfFact : Rows.renameTellsRow.wfByText (OpenSpec.ofChange Rows.renameTellsSpec) = true := by kernel_rfl
theorem mainFact : Tryz.pinned.checked.prog.mainIs = some (true, "57aa807153bc144eff5c36cf87883dacca962620634a65223660c638715ab021".toList) := by kernel_rfl
theorem looksFact : true = Tryz.pinned.checked.prog.looks [] := by kernel_rfl
theorem instFact : Tryz.f3.isInstance Tryz.pinned.checked.prog Rows.renameTellsRow.origin Rows.renameTellsRow.targs := of_decide_eq_true (by kernel_rfl)
theorem wrapFact : Tryz.f3.isWrapper Tryz.pinned.checked.prog Rows.renameTellsRow.wrapper Rows.renameTellsRow.mainSum := by unfold Func.isWrapper; first | (rw [if_pos (by decide +kernel)]; kernel_rfl) | (rw [if_neg (by decide +kernel)]; exact ⟨rfl, rfl⟩)
theorem namedFact : Tryz.pinned.checked.prog.funcNamed Rows.renameTellsRow.func = some 3 := by kernel_rfl
theorem initFact : Tryz.checked.prog.inits.idxOf? 3 = none := by kernel_rfl
end Go.Proofs.YtdpkipphgkphpaaGreatDoor
