/- The statement of emendlaw21.RenameTells and its tied card, proved. Conditions: those of the row itself, which lists package variables; no other. -/
import Derived.Test.YtdpkipphgkphpaaGreatDoorPa
import Derived.Test.YtdpkipphgkphpaaGreatDoorKe
import Derived.Test.YtdpkipphgkphpaaGreatDoorKf
import Derived.Test.YtdpkipphgkphpaaGreatDoorKg
namespace Go.Proofs.YtdpkipphgkphpaaGreatDoor
open Go.ChangeShapes Go.WideShapes Go.ChangeAt Go.RowKit Go.Deep

set_option maxRecDepth 100000 in
theorem witness (os : Os) {H : Type} (enc : TypeId × Value → H) : ∃ (w : World) (tape : Tape) (i : Input), w.os = os ∧ (w.forCall tape i).Shaped Tryz.checked.prog ∧ i.vars = [] ∧ Input.okWide Tryz.checked.prog (w.forCall tape i) .any w.heap.size 3 i ∧
    (OpenSpec.ofChange Rows.renameTellsSpec).preRow enc Tryz.checked.prog Tryz.f3 Rows.renameTellsRow.domain false Rows.renameTellsRow.laid (w.forCall tape i).memory i.args ∧ ({} : Assume).holds Tryz.checked.prog (lone (Frame.enter Tryz.checked.prog 3 i.args .normal) [] (w.forCall tape i)) :=
  ⟨wit1 os, fun _ _ => 0, ⟨#[], wargs, []⟩, (World.layVars_os _ _ _).trans rfl, World.shaped_of_ZipB (wit_vars os) (wit_rest os), (Input.okWide_of_okWideB (base := 0) (wit_ok os)).1, (Input.okWide_of_okWideB (wit_ok os)).2,
    OpenSpec.preRow_of_cond 8 (wit_reads os enc) rfl (fun k hk => by cases hk) (wit_sized os enc) (wit_met os), by
      simp only [Assume.holds]
      exact ⟨by simp, by simp, fun _ => Modest.zero, by simp, by simp⟩⟩

set_option maxRecDepth 100000 in
theorem lifted (os : Os) (started : os.Started) (H : Type) (enc : TypeId × Value → H) (F : Stop.Interp) :
    ReturnsInHanded {} Tryz.checked os 3 .any ((OpenSpec.ofChange Rows.renameTellsSpec).preRow enc Tryz.prog Tryz.f3 Rows.renameTellsRow.domain false Rows.renameTellsRow.laid) (((OpenSpec.ofChange Rows.renameTellsSpec).at F).post enc Tryz.prog Tryz.f3 false true false false) := by
  refine returnsInHanded_of_row (C := Tryz.checked) (s := OpenSpec.ofChange Rows.renameTellsSpec) own started initFact Tryz.func3 (witness os enc) ?_
  intro W base args ds gs before hval hW _ _ hsz hL hsh _
  exact contract H enc W base args ds gs before hval hW hsz hL hsh

set_option maxRecDepth 100000 in
theorem said : Rows.RenameTellsSaid :=
  OpenClaim.holds_of_cond 3 Tryz.f3 rfl rfl rfl rfl rfl rfl rfl ⟨rfl, rfl, rfl, rfl, rfl⟩ rfl rfl rfl rfl rfl namedFact Tryz.func3 closedFacts instFact wrapFact
    (fun os started H enc _ F => by rw [OpenClaim.pre_eq_preRow]; exact lifted os started H enc F)

/-- No parameter wants a stand-in; the program's own looks are on: what the card asks. -/
theorem plain (f : FuncId) (fn : Func) (hf : Tryz.pinned.checked.prog.funcNamed "emend/emendlaw21.RenameTells" = some f) (hfn : Tryz.pinned.checked.prog.funcs[f]? = some fn) :
    true = Tryz.pinned.checked.prog.looks [] ∧ ∀ (j : Nat) t, fn.params[j]? = some t → Tryz.pinned.checked.prog.wantsStandIn t = false := by
  obtain rfl : f = 3 := Option.some.inj (namedFact.symm.trans hf) |>.symm
  obtain rfl : fn = Tryz.f3 := (Option.some.inj (Tryz.func3.symm.trans hfn)).symm
  refine ⟨looksFact, fun j t ht => ?_⟩
  rw [Tryz.params3] at ht
  have hm : t ∈ [22, 22, 9, 9] := by simpa using Array.mem_of_getElem? ht
  have hall : ([22, 22, 9, 9].all fun u => !Tryz.prog.wantsStandIn u) = true := by kernel_rfl
  exact (show Tryz.prog.wantsStandIn t = false by simpa using List.all_eq_true.1 hall t hm)

/-- The tied card. -/
theorem card : Rows.RenameTellsCardSaid :=
  Claim7.holds_tied_plain_at .later [] _ _ _ _ said (fun _ h => by cases h) wfFact (fun _ h => by cases h) renameTells_row_tie rfl ⟨rfl, rfl⟩ mainFact rfl plain goesFact
#print axioms card
end Go.Proofs.YtdpkipphgkphpaaGreatDoor
