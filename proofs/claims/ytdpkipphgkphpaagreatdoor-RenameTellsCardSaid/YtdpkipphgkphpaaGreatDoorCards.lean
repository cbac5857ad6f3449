/-
  DERIVED. GIVEN WITH THE SEED: THE CARDS: each row of YtdpkipphgkphpaaGreatDoorRows.lean that lists a variable, with what it lists TIED to the program's text (the seventh form; the later family's looks); each row that meets fmt, with fmt's text TOLD by the authors' own Lean function (tested against real Go, not proved from fmt's source: count such statements apart). THE CARD IS WHAT COUNTS. Prove the row's statement (the work); the ties are given (YtdpkipphgkphpaaGreatDoorTie.lean); close each card by the builder's one call (the guide's Derived/Test/ToyasCard.lean, 'card_holds'). Laid BY PROGRAM, IN A SANDBOX (cutbox-door.mjs). By AI agents, Wed Nov 11 2026. No macro, syntax, notation, axiom, sorry.
-/
import Derived.Test.YtdpkipphgkphpaaGreatDoorRows
import GoSem.ClaimSeven
namespace Go.Proofs.YtdpkipphgkphpaaGreatDoor
namespace Rows

/-- THE TIED CARD OF 'emendlaw21.RenameTells'. -/
def renameTellsCard : Claim7 := { stood := { row := renameTellsRow, standIns := [], harness := (true, "57aa807153bc144eff5c36cf87883dacca962620634a65223660c638715ab021"), looks := true }, kinds := [], alts := [], laidByText := true, laidKinds := [.data, .data, .handle, .listed, .data, .data, .widerDeep, .widerDeep, .widerDeep, .pinned], laidTests := true, laidLooks := .later }
def RenameTellsCardSaid : Prop := Claim7.holds Tryz.pinned (.plain (OpenSpec.ofChange renameTellsSpec)) renameTellsCard

/-- THE SECOND FORM's CARD OF 'emendlaw21.RenameTells'. -/
def renameTellsUptoCard : Claim7 := { stood := { row := renameTellsUptoRow, standIns := [], harness := (true, "57aa807153bc144eff5c36cf87883dacca962620634a65223660c638715ab021"), looks := true }, kinds := [], alts := [], laidByText := true, laidKinds := [.data, .data, .handle, .listed, .data, .data, .widerDeep, .widerDeep, .widerDeep, .pinned], laidTests := true, laidLooks := .later }
def RenameTellsUptoCardSaid : Prop := Claim7.holds Tryz.pinned (.plain (OpenSpec.upto renameTellsSpec)) renameTellsUptoCard
end Rows
end Go.Proofs.YtdpkipphgkphpaaGreatDoor
