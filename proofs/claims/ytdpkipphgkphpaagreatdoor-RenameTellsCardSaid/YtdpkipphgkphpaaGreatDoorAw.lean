/- Function 4 (awake) answers true, and leaves the blocks that were there. Condition: the listed tables lie as the row's list says, and the world is shaped. -/
import Derived.Test.YtdpkipphgkphpaaGreatDoorM
import Derived.Test.YtdpkipphgkphpaaGreatDoorR0
import Derived.Test.YtdpkipphgkphpaaGreatDoorR1
import Derived.Test.YtdpkipphgkphpaaGreatDoorR2
import Derived.Test.YtdpkipphgkphpaaGreatDoorR3
import Derived.Test.YtdpkipphgkphpaaGreatDoorR4
import Derived.Test.YtdpkipphgkphpaaGreatDoorR5
import Derived.Test.YtdpkipphgkphpaaGreatDoorR6
import Derived.Test.YtdpkipphgkphpaaGreatDoorR7
import Derived.Test.YtdpkipphgkphpaaGreatDoorR8
import Derived.Test.YtdpkipphgkphpaaGreatDoorR9
import Derived.Test.YtdpkipphgkphpaaGreatDoorR10
import Derived.Test.YtdpkipphgkphpaaGreatDoorR11
import Derived.Test.YtdpkipphgkphpaaGreatDoorR12
import Derived.Test.YtdpkipphgkphpaaGreatDoorR13
import Derived.Test.YtdpkipphgkphpaaGreatDoorR14
import Derived.Test.YtdpkipphgkphpaaGreatDoorR15
namespace Go.Absm.Ax
open Go.Proofs
open Go.Proofs.YtdpkipphgkphpaaGreatDoor
set_option maxRecDepth 100000

abbrev G (s t : AM) : Prop := Goes Tryz.prog tb dm s t
theorem goes1 : G s0 s4 := ((Goes.piece table piece0).trans (.piece table piece1)).trans ((Goes.piece table piece2).trans (.piece table piece3))
theorem goes2 : G s4 s8 := ((Goes.piece table piece4).trans (.piece table piece5)).trans ((Goes.piece table piece6).trans (.piece table piece7))
theorem goes3 : G s8 s12 := ((Goes.piece table piece8).trans (.piece table piece9)).trans ((Goes.piece table piece10).trans (.piece table piece11))
theorem goes4 : G s12 s16 := ((Goes.piece table piece12).trans (.piece table piece13)).trans ((Goes.piece table piece14).trans (.piece table piece15))
theorem goes : G s0 s16 := (goes1.trans goes2).trans (goes3.trans goes4)
theorem enters : enter tb (pos 4) [] false = some s0.fr := by kernel_rfl
theorem answers : resultOf tb (pos 4) s16.fr.env s16.h = some (.bool true) := by kernel_rfl

theorem awake_any {W : World} (h : laidMetH Tryz.prog Rows.renameTellsRow.laid W) (hsh : W.ShapedOpen Tryz.prog) :
    Calls Tryz.prog 4 #[] W fun e w' => e = .returned (.bool true) ∧ (∀ B, B < W.heap.size → w'.heap[B]? = W.heap[B]?) ∧ W.heap.size ≤ w'.heap.size ∧ w'.os = W.os ∧ w'.tape = W.tape ∧ w'.output = W.output := by
  obtain ⟨ρ, hI⟩ := inv_start h hsh
  have e := calls_of table goes enters ⟨rfl, rfl⟩ ⟨rfl, rfl, rfl, rfl, rfl⟩ answers hI
  rw [pos_toNat (by decide)] at e
  exact e
end Go.Absm.Ax
