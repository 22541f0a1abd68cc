/- Closed facts of the row. -/
import Derived.Test.YthedjffolgeomaaGreatDoorRows
import Derived.OpenShut
import Derived.ProofKit
namespace Go.Proofs.YthedjffolgeomaaGreatDoor.facts
open Go
set_option maxRecDepth 100000
theorem named:(Rows.waitsAloneRow.named == Tryz.prog.varsNamed 4)=true:=by kernel_rfl
end Go.Proofs.YthedjffolgeomaaGreatDoor.facts
