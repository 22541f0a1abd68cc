/- Closed facts of the row. -/
import Derived.Test.YthedjffolgeomaaGreatDoorRows
import Derived.OpenShut
import Derived.ProofKit
namespace Go.Proofs.YthedjffolgeomaaGreatDoor.facts
open Go
set_option maxRecDepth 100000
theorem wf:Rows.waitsMomentsRow.wf (OpenSpec.ofChange (OpenSpec.ofChange Rows.waitsMomentsSpec).bare)=true:=by kernel_rfl
theorem laidOut:laidOutB Tryz.prog=true:=by kernel_rfl
theorem mapsRowed:mapsRowed Tryz.prog=true:=by kernel_rfl
theorem params:Tryz.f3.params.all (Tryz.prog.readableRec ·)=true:=by kernel_rfl
theorem namedTie:namedTie Tryz.prog Rows.waitsMomentsRow.named (OpenSpec.ofChange Rows.waitsMomentsSpec).bare.vars=true:=by kernel_rfl
theorem yVL:(Rows.waitsMomentsRow.stops == [])=true:=by kernel_rfl
theorem yWt:(Tryz.prog.stops == [])=true:=by kernel_rfl
theorem yWv:(Rows.waitsMomentsRow.knobs == [])=true:=by kernel_rfl
theorem yVh:(Tryz.prog.stopKnobs == [])=true:=by kernel_rfl
theorem maps:(Rows.waitsMomentsRow.maps == (Tryz.f3.params.toList ++ (OpenSpec.ofChange Rows.waitsMomentsSpec).bare.plain.varTypes Tryz.prog).any (Tryz.prog.mapsRec ·))=true:=by kernel_rfl
theorem ifaces:(Rows.waitsMomentsRow.ifaces == (Tryz.f3.params.toList ++ (OpenSpec.ofChange Rows.waitsMomentsSpec).bare.plain.varTypes Tryz.prog).any (Tryz.prog.ifacesRec ·))=true:=by kernel_rfl
theorem mapsOut:(Rows.waitsMomentsRow.mapsOut == Tryz.prog.mapsAmong Tryz.f3.resultTypes.toList)=true:=by kernel_rfl
theorem loops:(Rows.waitsMomentsRow.loops == (Tryz.f3.params.toList ++ (OpenSpec.ofChange Rows.waitsMomentsSpec).bare.plain.varTypes Tryz.prog).any (Tryz.prog.loopsFrom ·))=true:=by kernel_rfl
theorem wideKeys:(Rows.waitsMomentsRow.wideKeys == (Tryz.f3.params.toList ++ (OpenSpec.ofChange Rows.waitsMomentsSpec).bare.plain.varTypes Tryz.prog ++ Tryz.f3.resultTypes.toList).any (Tryz.prog.wideKeysFrom ·))=true:=by kernel_rfl
theorem vars:(OpenSpec.ofChange Rows.waitsMomentsSpec).bare.vars.all (Tryz.prog.varReadable ·)=true:=by kernel_rfl
theorem results:Tryz.f3.resultTypes.all (fun t=>Tryz.prog.readableRec t && decide (t < Tryz.prog.types.size))=true:=by kernel_rfl
theorem ifacesOut:(Rows.waitsMomentsRow.ifacesOut == Tryz.f3.resultTypes.toList.any (Tryz.prog.ifacesRec ·))=true:=by kernel_rfl
theorem loopsOut:(Rows.waitsMomentsRow.loopsOut == Tryz.f3.resultTypes.toList.any (Tryz.prog.loopsFrom ·))=true:=by kernel_rfl
theorem plainKeys:(Rows.waitsMomentsRow.plainKeys == Tryz.prog.plainKeys)=true:=by kernel_rfl
theorem shortTexts:Rows.waitsMomentsRow.shortTexts.isNone=true:=by kernel_rfl
theorem stopsHeard:Tryz.prog.stopsHeard=true:=by kernel_rfl
theorem mayEnter:Tryz.prog.mayEnter=true:=by kernel_rfl
theorem lifted:(Rows.waitsMomentsRow.lifted == Tryz.prog.liftsFinal)=true:=by kernel_rfl
theorem make:(Tryz.prog.make == some Rows.waitsMomentsRow.make)=true:=by kernel_rfl
theorem kinds:(Rows.waitsMomentsRow.kinds == (if Rows.waitsMomentsRow.domain.isEmpty then [] else Tryz.f3.params.toList.map fun t=>match Tryz.prog.underlying t with | some (.int k)=>some k | _=>none))=true:=by kernel_rfl
theorem pinned:(Rows.waitsMomentsRow.pinned == Rows.waitsMomentsRow.pinnedBy)=true:=by kernel_rfl
theorem veiled:(Rows.waitsMomentsRow.veiled == (Tryz.f3.params.toList ++ (OpenSpec.ofChange Rows.waitsMomentsSpec).bare.plain.varTypes Tryz.prog ++ Tryz.f3.resultTypes.toList).any (Tryz.prog.veiledRec ·))=true:=by kernel_rfl
theorem veiledFits:Rows.waitsMomentsRow.veiledFits Tryz.prog Tryz.f3.params.toList (Tryz.f3.params.toList ++ (OpenSpec.ofChange Rows.waitsMomentsSpec).bare.plain.varTypes Tryz.prog ++ Tryz.f3.resultTypes.toList)=true:=by kernel_rfl
end Go.Proofs.YthedjffolgeomaaGreatDoor.facts
