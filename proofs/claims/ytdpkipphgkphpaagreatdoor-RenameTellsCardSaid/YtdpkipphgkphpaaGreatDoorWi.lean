/- There is an input that fits: two nil slices and two empty strings in a world that holds the listed tables. No condition. -/
import Derived.Test.YtdpkipphgkphpaaGreatDoorRows
import Derived.ProofKit
import Derived.LaidMore
import Derived.OpenShut
import Derived.Lay
import Derived.Deep.DeepHandedRow
import Derived.Deep.DeepWitnessRowRef
import Derived.KernelRfl
namespace Go.Proofs.YtdpkipphgkphpaaGreatDoor
open Go.ChangeShapes Go.WideShapes Go.ChangeAt Go.RowKit
set_option maxRecDepth 100000

abbrev wargs : Array Value := #[.slice none 0 0, .slice none 0 0, .string ⟨#[]⟩, .string ⟨#[]⟩]
/-- The settled world, the handle laid. -/
noncomputable def wit0 (os : Os) : World :=
  { World.holding Tryz.prog os ⟨#[], #[], []⟩ with heap := (World.holding Tryz.prog os ⟨#[], #[], []⟩).heap.modify 0 fun
      | .cells _ t frozen => .cells #[.iface 236 (.agg #[.pointer (some ⟨12, 110, none⟩)])] t frozen
      | o => o }
/-- The listed variables without a handle. -/
abbrev plainLaid : List (String × DataW Unit) := Rows.renameTellsRow.laid.filter fun x => x.2.handleName?.isNone
noncomputable def wit1 (os : Os) : World := (wit0 os).layVars Tryz.prog plainLaid
noncomputable abbrev wit (os : Os) : World := (wit1 os).forCall (fun _ _ => 0) ⟨#[], wargs, []⟩
theorem wit_fits (os : Os) : (wit0 os).layFits Tryz.prog plainLaid [] = true := by kernel_rfl
theorem wit_ifaces (os : Os) : (wit0 os).layIfaces Tryz.prog plainLaid (wit1 os) = true := by kernel_rfl
theorem wit_plain (os : Os) : laidMet Tryz.prog plainLaid (wit os).memory := by
  have e1 : (plainLaid.filter fun x => (plainLaid.map (·.1)).contains x.1) = plainLaid := List.filter_eq_self.2 fun x hx => List.contains_iff_mem.2 (List.mem_map.2 ⟨x, hx, rfl⟩)
  have e2 : (plainLaid.filter fun x => !(plainLaid.map (·.1)).contains x.1) = [] := List.filter_eq_nil_iff.2 fun x hx => by rw [List.contains_iff_mem.2 (List.mem_map.2 ⟨x, hx, rfl⟩)]; simp
  have h : laidMet Tryz.prog plainLaid (wit1 os) := laidMet_layVars (w0 := wit0 os) (plainLaid.map (·.1)) [] (by rw [e1]; rfl) (by rw [e1]; exact wit_fits os) (by rw [e1]; exact wit_ifaces os) (by rw [e2]; exact LaidIn.none)
  exact h.of_heap (by simp [World.memory, World.forCall, Input.heap])
theorem wit_handle (os : Os) : (Rows.renameTellsRow.laid.filter fun x => x.2.handleName?.isSome).all (handleAtB Tryz.prog (wit os).memory) = true := by kernel_rfl
theorem wit_met (os : Os) : laidMetH Tryz.prog Rows.renameTellsRow.laid (wit os).memory := laidMetH_of_parts (wit_plain os) (wit_handle os)
theorem wit_vars (os : Os) : (wit os).variablesZipB Tryz.prog = true := by kernel_rfl
theorem wit_rest (os : Os) : ((wit os).heap.toList.drop Tryz.prog.globals.size).take ((begin Tryz.prog (fun _ _ => 0) default).world.heap.size - Tryz.prog.globals.size) = (begin Tryz.prog (fun _ _ => 0) default).world.heap.toList.drop Tryz.prog.globals.size := by kernel_rfl
theorem wit_ok (os : Os) : Input.okWideB Tryz.prog (wit os) 3 ⟨#[], wargs, []⟩ = true := by kernel_rfl
theorem wit_reads (os : Os) {H : Type} (enc : TypeId × Value → H) : DataW.whole enc Tryz.prog (wit os).memory Tryz.f3.params.toList Rows.renameTellsSpec.vars false wargs.toList 8 = some ([.nil, .nil, .lit (.string []), .lit (.string [])], [], []) := by kernel_rfl
theorem wit_sized (os : Os) {H : Type} (enc : TypeId × Value → H) : (OpenSpec.ofChange Rows.renameTellsSpec).bare.sizedB enc Tryz.prog Tryz.f3 false (wit os).memory wargs 8 = true := by kernel_rfl
end Go.Proofs.YtdpkipphgkphpaaGreatDoor
