/- Closed facts of the row. -/
import Derived.Test.YtloknibdaldffaaGreatDoorRows
import Derived.OpenShut
import Derived.ProofKit
namespace Go.Proofs.YtloknibdaldffaaGreatDoor.facts
open Go
set_option maxRecDepth 100000
theorem wf : Rows.waitsLongestRow.wf (OpenSpec.ofChange (OpenSpec.ofChange Rows.waitsLongestSpec).bare) = true := by kernel_rfl
theorem laidOut : laidOutB Tryz.prog = true := by kernel_rfl
theorem mapsRowed : mapsRowed Tryz.prog = true := by kernel_rfl
theorem params : Tryz.f3.params.all (Tryz.prog.readableRec ·) = true := by kernel_rfl
theorem namedTie : namedTie Tryz.prog Rows.waitsLongestRow.named (OpenSpec.ofChange Rows.waitsLongestSpec).bare.vars = true := by kernel_rfl
theorem stops1 : (Rows.waitsLongestRow.stops == []) = true := by kernel_rfl
theorem stops2 : (Tryz.prog.stops == []) = true := by kernel_rfl
theorem knobs1 : (Rows.waitsLongestRow.knobs == []) = true := by kernel_rfl
theorem knobs2 : (Tryz.prog.stopKnobs == []) = true := by kernel_rfl
theorem maps : (Rows.waitsLongestRow.maps == (Tryz.f3.params.toList ++ (OpenSpec.ofChange Rows.waitsLongestSpec).bare.plain.varTypes Tryz.prog).any (Tryz.prog.mapsRec ·)) = true := by kernel_rfl
theorem ifaces : (Rows.waitsLongestRow.ifaces == (Tryz.f3.params.toList ++ (OpenSpec.ofChange Rows.waitsLongestSpec).bare.plain.varTypes Tryz.prog).any (Tryz.prog.ifacesRec ·)) = true := by kernel_rfl
theorem mapsOut : (Rows.waitsLongestRow.mapsOut == Tryz.prog.mapsAmong Tryz.f3.resultTypes.toList) = true := by kernel_rfl
theorem loops : (Rows.waitsLongestRow.loops == (Tryz.f3.params.toList ++ (OpenSpec.ofChange Rows.waitsLongestSpec).bare.plain.varTypes Tryz.prog).any (Tryz.prog.loopsFrom ·)) = true := by kernel_rfl
theorem wideKeys : (Rows.waitsLongestRow.wideKeys == (Tryz.f3.params.toList ++ (OpenSpec.ofChange Rows.waitsLongestSpec).bare.plain.varTypes Tryz.prog ++ Tryz.f3.resultTypes.toList).any (Tryz.prog.wideKeysFrom ·)) = true := by kernel_rfl
theorem vars : (OpenSpec.ofChange Rows.waitsLongestSpec).bare.vars.all (Tryz.prog.varReadable ·) = true := by kernel_rfl
theorem results : Tryz.f3.resultTypes.all (fun t => Tryz.prog.readableRec t && decide (t < Tryz.prog.types.size)) = true := by kernel_rfl
theorem ifacesOut : (Rows.waitsLongestRow.ifacesOut == Tryz.f3.resultTypes.toList.any (Tryz.prog.ifacesRec ·)) = true := by kernel_rfl
theorem loopsOut : (Rows.waitsLongestRow.loopsOut == Tryz.f3.resultTypes.toList.any (Tryz.prog.loopsFrom ·)) = true := by kernel_rfl
theorem plainKeys : (Rows.waitsLongestRow.plainKeys == Tryz.prog.plainKeys) = true := by kernel_rfl
theorem shortTexts : Rows.waitsLongestRow.shortTexts.isNone = true := by kernel_rfl
theorem stopsHeard : Tryz.prog.stopsHeard = true := by kernel_rfl
theorem mayEnter : Tryz.prog.mayEnter = true := by kernel_rfl
theorem lifted : (Rows.waitsLongestRow.lifted == Tryz.prog.liftsFinal) = true := by kernel_rfl
theorem make : (Tryz.prog.make == some Rows.waitsLongestRow.make) = true := by kernel_rfl
theorem kinds : (Rows.waitsLongestRow.kinds == (if Rows.waitsLongestRow.domain.isEmpty then [] else Tryz.f3.params.toList.map fun t => match Tryz.prog.underlying t with | some (.int k) => some k | _ => none)) = true := by kernel_rfl
theorem pinned : (Rows.waitsLongestRow.pinned == Rows.waitsLongestRow.pinnedBy) = true := by kernel_rfl
theorem veiled : (Rows.waitsLongestRow.veiled == (Tryz.f3.params.toList ++ (OpenSpec.ofChange Rows.waitsLongestSpec).bare.plain.varTypes Tryz.prog ++ Tryz.f3.resultTypes.toList).any (Tryz.prog.veiledRec ·)) = true := by kernel_rfl
theorem veiledFits : Rows.waitsLongestRow.veiledFits Tryz.prog Tryz.f3.params.toList (Tryz.f3.params.toList ++ (OpenSpec.ofChange Rows.waitsLongestSpec).bare.plain.varTypes Tryz.prog ++ Tryz.f3.resultTypes.toList) = true := by kernel_rfl
end Go.Proofs.YtloknibdaldffaaGreatDoor.facts
