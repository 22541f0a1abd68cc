/- Closed facts of the row. -/
import Derived.Test.YthedjffolgeomaaGreatDoorRows
import Derived.OpenShut
import Derived.ProofKit
namespace Go.Proofs.YthedjffolgeomaaGreatDoor.facts
open Go
set_option maxRecDepth 100000
theorem wf:Rows.waitsAloneRow.wf (OpenSpec.ofChange (OpenSpec.ofChange Rows.waitsAloneSpec).bare)=true:=by kernel_rfl
theorem laidOut:laidOutB Tryz.prog=true:=by kernel_rfl
theorem mapsRowed:mapsRowed Tryz.prog=true:=by kernel_rfl
theorem params:Tryz.f4.params.all (Tryz.prog.readableRec ·)=true:=by kernel_rfl
theorem namedTie:namedTie Tryz.prog Rows.waitsAloneRow.named (OpenSpec.ofChange Rows.waitsAloneSpec).bare.vars=true:=by kernel_rfl
theorem yWr:(Rows.waitsAloneRow.stops == [])=true:=by kernel_rfl
theorem yVp:(Tryz.prog.stops == [])=true:=by kernel_rfl
theorem yWn:(Rows.waitsAloneRow.knobs == [])=true:=by kernel_rfl
theorem yWk:(Tryz.prog.stopKnobs == [])=true:=by kernel_rfl
theorem maps:(Rows.waitsAloneRow.maps == (Tryz.f4.params.toList ++ (OpenSpec.ofChange Rows.waitsAloneSpec).bare.plain.varTypes Tryz.prog).any (Tryz.prog.mapsRec ·))=true:=by kernel_rfl
theorem ifaces:(Rows.waitsAloneRow.ifaces == (Tryz.f4.params.toList ++ (OpenSpec.ofChange Rows.waitsAloneSpec).bare.plain.varTypes Tryz.prog).any (Tryz.prog.ifacesRec ·))=true:=by kernel_rfl
theorem mapsOut:(Rows.waitsAloneRow.mapsOut == Tryz.prog.mapsAmong Tryz.f4.resultTypes.toList)=true:=by kernel_rfl
theorem loops:(Rows.waitsAloneRow.loops == (Tryz.f4.params.toList ++ (OpenSpec.ofChange Rows.waitsAloneSpec).bare.plain.varTypes Tryz.prog).any (Tryz.prog.loopsFrom ·))=true:=by kernel_rfl
theorem wideKeys:(Rows.waitsAloneRow.wideKeys == (Tryz.f4.params.toList ++ (OpenSpec.ofChange Rows.waitsAloneSpec).bare.plain.varTypes Tryz.prog ++ Tryz.f4.resultTypes.toList).any (Tryz.prog.wideKeysFrom ·))=true:=by kernel_rfl
theorem vars:(OpenSpec.ofChange Rows.waitsAloneSpec).bare.vars.all (Tryz.prog.varReadable ·)=true:=by kernel_rfl
theorem results:Tryz.f4.resultTypes.all (fun t=>Tryz.prog.readableRec t && decide (t < Tryz.prog.types.size))=true:=by kernel_rfl
theorem ifacesOut:(Rows.waitsAloneRow.ifacesOut == Tryz.f4.resultTypes.toList.any (Tryz.prog.ifacesRec ·))=true:=by kernel_rfl
theorem loopsOut:(Rows.waitsAloneRow.loopsOut == Tryz.f4.resultTypes.toList.any (Tryz.prog.loopsFrom ·))=true:=by kernel_rfl
theorem plainKeys:(Rows.waitsAloneRow.plainKeys == Tryz.prog.plainKeys)=true:=by kernel_rfl
theorem shortTexts:Rows.waitsAloneRow.shortTexts.isNone=true:=by kernel_rfl
theorem stopsHeard:Tryz.prog.stopsHeard=true:=by kernel_rfl
theorem mayEnter:Tryz.prog.mayEnter=true:=by kernel_rfl
theorem lifted:(Rows.waitsAloneRow.lifted == Tryz.prog.liftsFinal)=true:=by kernel_rfl
theorem make:(Tryz.prog.make == some Rows.waitsAloneRow.make)=true:=by kernel_rfl
theorem kinds:(Rows.waitsAloneRow.kinds == (if Rows.waitsAloneRow.domain.isEmpty then [] else Tryz.f4.params.toList.map fun t=>match Tryz.prog.underlying t with | some (.int k)=>some k | _=>none))=true:=by kernel_rfl
theorem pinned:(Rows.waitsAloneRow.pinned == Rows.waitsAloneRow.pinnedBy)=true:=by kernel_rfl
theorem veiled:(Rows.waitsAloneRow.veiled == (Tryz.f4.params.toList ++ (OpenSpec.ofChange Rows.waitsAloneSpec).bare.plain.varTypes Tryz.prog ++ Tryz.f4.resultTypes.toList).any (Tryz.prog.veiledRec ·))=true:=by kernel_rfl
theorem veiledFits:Rows.waitsAloneRow.veiledFits Tryz.prog Tryz.f4.params.toList (Tryz.f4.params.toList ++ (OpenSpec.ofChange Rows.waitsAloneSpec).bare.plain.varTypes Tryz.prog ++ Tryz.f4.resultTypes.toList)=true:=by kernel_rfl
end Go.Proofs.YthedjffolgeomaaGreatDoor.facts
