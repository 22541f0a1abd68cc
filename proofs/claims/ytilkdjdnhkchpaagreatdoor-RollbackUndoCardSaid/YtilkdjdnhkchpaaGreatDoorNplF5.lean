/- Closed facts of the row. -/
import Derived.Test.YtilkdjdnhkchpaaGreatDoorRows
import Derived.OpenShut
import Derived.ProofKit
namespace Go.Proofs.YtilkdjdnhkchpaaGreatDoor.facts
open Go
set_option maxRecDepth 100000
theorem wf : Rows.rollbackUndoRow.wf (OpenSpec.ofChange (OpenSpec.ofChange Rows.rollbackUndoSpec).bare) = true := by kernel_rfl
theorem laidOut : laidOutB Tryz.prog = true := by kernel_rfl
theorem mapsRowed : mapsRowed Tryz.prog = true := by kernel_rfl
theorem params : Tryz.f3.params.all (Tryz.prog.readableRec ·) = true := by kernel_rfl
theorem namedTie : namedTie Tryz.prog Rows.rollbackUndoRow.named (OpenSpec.ofChange Rows.rollbackUndoSpec).bare.vars = true := by kernel_rfl
theorem stops1 : (Rows.rollbackUndoRow.stops == []) = true := by kernel_rfl
theorem stops2 : (Tryz.prog.stops == []) = true := by kernel_rfl
theorem knobs1 : (Rows.rollbackUndoRow.knobs == []) = true := by kernel_rfl
theorem knobs2 : (Tryz.prog.stopKnobs == []) = true := by kernel_rfl
theorem maps : (Rows.rollbackUndoRow.maps == (Tryz.f3.params.toList ++ (OpenSpec.ofChange Rows.rollbackUndoSpec).bare.plain.varTypes Tryz.prog).any (Tryz.prog.mapsRec ·)) = true := by kernel_rfl
theorem ifaces : (Rows.rollbackUndoRow.ifaces == (Tryz.f3.params.toList ++ (OpenSpec.ofChange Rows.rollbackUndoSpec).bare.plain.varTypes Tryz.prog).any (Tryz.prog.ifacesRec ·)) = true := by kernel_rfl
theorem mapsOut : (Rows.rollbackUndoRow.mapsOut == Tryz.prog.mapsAmong Tryz.f3.resultTypes.toList) = true := by kernel_rfl
theorem loops : (Rows.rollbackUndoRow.loops == (Tryz.f3.params.toList ++ (OpenSpec.ofChange Rows.rollbackUndoSpec).bare.plain.varTypes Tryz.prog).any (Tryz.prog.loopsFrom ·)) = true := by kernel_rfl
theorem wideKeys : (Rows.rollbackUndoRow.wideKeys == (Tryz.f3.params.toList ++ (OpenSpec.ofChange Rows.rollbackUndoSpec).bare.plain.varTypes Tryz.prog ++ Tryz.f3.resultTypes.toList).any (Tryz.prog.wideKeysFrom ·)) = true := by kernel_rfl
theorem vars : (OpenSpec.ofChange Rows.rollbackUndoSpec).bare.vars.all (Tryz.prog.varReadable ·) = true := by kernel_rfl
theorem results : Tryz.f3.resultTypes.all (fun t => Tryz.prog.readableRec t && decide (t < Tryz.prog.types.size)) = true := by kernel_rfl
theorem ifacesOut : (Rows.rollbackUndoRow.ifacesOut == Tryz.f3.resultTypes.toList.any (Tryz.prog.ifacesRec ·)) = true := by kernel_rfl
theorem loopsOut : (Rows.rollbackUndoRow.loopsOut == Tryz.f3.resultTypes.toList.any (Tryz.prog.loopsFrom ·)) = true := by kernel_rfl
theorem plainKeys : (Rows.rollbackUndoRow.plainKeys == Tryz.prog.plainKeys) = true := by kernel_rfl
theorem shortTexts : Rows.rollbackUndoRow.shortTexts.isNone = true := by kernel_rfl
theorem stopsHeard : Tryz.prog.stopsHeard = true := by kernel_rfl
theorem mayEnter : Tryz.prog.mayEnter = true := by kernel_rfl
theorem lifted : (Rows.rollbackUndoRow.lifted == Tryz.prog.liftsFinal) = true := by kernel_rfl
theorem make : (Tryz.prog.make == some Rows.rollbackUndoRow.make) = true := by kernel_rfl
theorem kinds : (Rows.rollbackUndoRow.kinds == (if Rows.rollbackUndoRow.domain.isEmpty then [] else Tryz.f3.params.toList.map fun t => match Tryz.prog.underlying t with | some (.int k) => some k | _ => none)) = true := by kernel_rfl
theorem pinned : (Rows.rollbackUndoRow.pinned == Rows.rollbackUndoRow.pinnedBy) = true := by kernel_rfl
theorem veiled : (Rows.rollbackUndoRow.veiled == (Tryz.f3.params.toList ++ (OpenSpec.ofChange Rows.rollbackUndoSpec).bare.plain.varTypes Tryz.prog ++ Tryz.f3.resultTypes.toList).any (Tryz.prog.veiledRec ·)) = true := by kernel_rfl
theorem veiledFits : Rows.rollbackUndoRow.veiledFits Tryz.prog Tryz.f3.params.toList (Tryz.f3.params.toList ++ (OpenSpec.ofChange Rows.rollbackUndoSpec).bare.plain.varTypes Tryz.prog ++ Tryz.f3.resultTypes.toList) = true := by kernel_rfl
end Go.Proofs.YtilkdjdnhkchpaaGreatDoor.facts
